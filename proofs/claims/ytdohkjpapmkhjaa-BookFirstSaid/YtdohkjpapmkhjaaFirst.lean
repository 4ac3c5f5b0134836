/-
  BookFirst, the walk: who is first wins: they make, or they drop.
-/
import Derived.Test.YtdohkjpapmkhjaaFirstP
import Derived.Test.YtdohkjpapmkhjaaLine
namespace Go.Proofs.Ytdohkjpapmkhjaa
open Go.RowKit

/-- A slice of bools that came in. -/
def Bools (w : World) (a : Option Addr) (n : Nat) : Prop := ∀ i, i < n → ∃ b off v, a = some ⟨b, off, none⟩ ∧ b < w.heap.size ∧ w.cell? ⟨b, off + i, none⟩ = some (.bool v)

set_option maxHeartbeats 4000000 in
set_option maxRecDepth 100000 in
theorem first_make (n : Int) (h0 : 0 ≤ n) (h1 : n ≤ 255) (a1 : Option Addr) (n1 cap1 : Nat) (w : World) (hb : Bools w a1 n1) (hn1 : n1 ≤ 9223372036854775807) :
    Calls Try.prog 13 #[.int .u8 n, .bool false, .slice a1 n1 cap1] w fun e w' => e = .returned (.bool true) ∧ Below w.heap.size w w' := by
  have HB := Lib.hid hb; clear hb
  obtain ⟨i66, hi66, hz660, hz661, hz662⟩ := info_parts Try.info66
  go_enter Try.func13, Try.ntmps13
  go_wp2_with fail
  refine (awake_eleven w).mono ?_
  rintro e w0 ⟨rfl, b0⟩
  go_wp2_with fail
  refine (new_ok 1 w0 (by decide) (by decide) (fun _ => 0) 1).mono ?_
  rintro e w1 ⟨rfl, l1, b1⟩
  go_wp2_with fail
  refine (bnew_at w1 (col (fun _ => 0) w0.heap.size 1) 2).mono ?_
  rintro e w2 ⟨rfl, k2, b2⟩
  have D2 : Line w0 (col (col (fun _ => 0) w0.heap.size 1) w1.heap.size 2) w2 w0.heap.size w1.heap.size [] (.slice none 0 0) (.slice none 0 0) [] [] 0 (.slice none 0 0) [] :=
    ⟨⟨(l1.recol (fun b hb => col_old hb)).same b2, k2, fun b hb => by rw [col_old (Nat.lt_of_lt_of_le hb b1.size), col_old hb], b1.trans (b2.mono b1.size)⟩, Snaps.nil _ _ _⟩
  clear l1 k2 b1 b2
  obtain ⟨pl, hpl⟩ : ∃ pl, pl = w0.heap.size := ⟨_, rfl⟩
  obtain ⟨p, hp⟩ : ∃ p, p = w1.heap.size := ⟨_, rfl⟩
  obtain ⟨c2, hc2⟩ : ∃ c2, c2 = col (col (fun _ => 0) w0.heap.size 1) w1.heap.size 2 := ⟨_, rfl⟩
  rw [← hc2] at D2
  rw [← hpl, ← hp] at D2
  rw [← hpl, ← hp]
  clear hc2 hpl hp
  go_wp2_with fail
  refine (line_begin D2 (by decide)).mono ?_
  rintro e w3 ⟨rfl, c3, D3⟩
  clear D2
  go_wp2_with fail
  refine (line_commit D3 1).mono ?_
  rintro e w4 ⟨rfl, D4, _⟩
  have D4 : Line w0 c3 w4 pl p (Lb 0) (.slice none 0 0) (.slice none 0 0) [] [] 0 (.slice none 0 0) [] := D4
  clear D3
  obtain ⟨k, hk, hk9⟩ : ∃ k : Nat, 2 + n % 8 = (k : Int) ∧ k ≤ 9 := ⟨(2 + n % 8).toNat, by omega, by omega⟩
  go_wp2_with fail
  clear hk
  go_loopw [13, 47] (fun v i wr => ∃ (j : Nat) (c : Nat → Nat) (ss : List (Snp × Value)), j ≤ k ∧ i = .int .i64 j ∧ Line w0 c wr pl p (Lb j) (.slice none 0 0) (.slice none 0 0) [] [] 0 v ss ∧ ss.length = j ∧ Hid (∀ q (h : q < ss.length), Nth q ss[q].1)) (fun _ i _ => k - (intOf i).toNat)
  case atStart => exact ⟨0, _, _, Nat.zero_le _, rfl, D4, rfl, fun q h => by cases h⟩
  case round =>
    clear D4
    obtain ⟨j, c, ss, hj, rfl, hD, hssl, HN⟩ := hrel
    subst hssl
    by_cases hlt : ss.length < k
    · go_wp2_with fail
      refine (line_begin hD (by rw [Lb_len]; omega)).mono ?_
      rw [Lb_snoc, Lb_len]
      rintro e wa ⟨rfl, ca, hDb⟩
      go_wp2_with fail
      rw [show (1 + ((ss.length : Int) + 1)) = (ss.length : Int) + 2 from by omega]
      refine (line_take hDb _).mono ?_
      rintro e wt ⟨rv, rfl, ct, hO, hDt⟩
      obtain ⟨ra, rc, hrv⟩ := ownsRow_slice hO.1.1
      subst hrv
      unfold Snp.val
      have hnt := nth_take ss.length
      obtain ⟨s, hs⟩ : ∃ s, s = Ytdohkjpapmkhjaa.take 1 (Lb (ss.length + 1)) ((ss.length : Int) + 2) := ⟨_, rfl⟩
      rw [← hs] at hO hnt
      rw [← hs]
      clear hs hDb
      have hN' := Lib.hid (show ∀ q (h : q < (ss ++ [(s, Value.slice ra s.run.length rc)]).length), Nth q (ss ++ [(s, Value.slice ra s.run.length rc)])[q].1 from fun q h => by
        rw [List.getElem_append]
        by_cases e : q < ss.length
        · rw [dif_pos e]; exact HN.out q e
        · rw [dif_neg e]
          have : q = ss.length := by rw [List.length_append] at h; simp at h; omega
          subst this
          simpa using hnt)
      have HNT := Lib.hid hnt
      have hown := hDt.s.1
      have hown2 := World.ownsRow.alloc hown (.cells (snapCells (s, .slice ra s.run.length rc)).toArray 66)
      clear hnt
      go_wp2_with (at_builtin; refine wpList_append_mine rfl (.tmp 54) (.tmp 58) 61 rfl 0 66 i66 (.agg #[.int .u64 0, .int .u64 0, .int .u64 0, .slice none 0 0]) 4 48 Try.underlying61 hi66 hz660 hz661 hz662 rfl (by decide) _ _ _ rfl hown2 ⟨wt.heap.size, 0, none⟩ 1 1 (snapCells (s, .slice ra s.run.length rc)) rfl rfl ?c1 ?c2 ?c3 ?c4 ?c5 ?_)
      case c1 => first | exact fun j u h => h | exact news_block (heap_new1 wt _)
      case c2 => intro u hu; simp [snapCells] at hu; rcases hu with rfl | rfl | rfl | rfl <;> rfl
      case c3 => unfold maxLen; omega
      case c4 => omega
      case c5 => omega
      intro v' w5 hown' hupd hnew
      have hDu := hDt.same ((Below.refl _ _).alloc (Nat.le_refl _) (.cells (snapCells (s, .slice ra s.run.length rc)).toArray 66))
      have hDl := hDu.look (hO.same ((Below.refl _ _).alloc (Nat.le_refl _) (.cells (snapCells (s, .slice ra s.run.length rc)).toArray 66))) hown' hupd (fun g hg => by have := hnew g hg; simpa using this) (by omega)
      clear hDt hDu hown hown2 hown'
      go_wp2_with fail
      go_roundw
      case rel => exact ⟨ss.length + 1, _, _, by omega, by go_num, hDl, by simp, hN'⟩
      case measure => simp [intOf]; omega
    · have hjk : ss.length = k := by omega
      subst hjk
      obtain ⟨sa, sc, hsv⟩ := ownsRow_slice hD.s.1
      subst hsv
      have hMd := Made.start ss.length
      go_wp2_with fail
      obtain ⟨wo, hwo⟩ : ∃ wo, wo = wr := ⟨_, rfl⟩
      subst hwo
      go_loopw [16, 63] (fun v i wr => ∃ (j : Nat) (f : Bool) (c : Nat → Nat) (L : List Nat) (tv : Value) (T : List (Nat × Ent × Value)) (last : Int), j ≤ ss.length ∧ i = .int .i64 j ∧ v = .bool f ∧ Line w0 c wr pl p L tv (.slice none 0 0) T [] last (.slice sa ss.length sc) ss ∧ Hid (Made ss.length j f L (T.map (·.2.1))) ∧ last ≤ j) (fun _ i _ => ss.length - (intOf i).toNat)
      case atStart => exact ⟨0, true, _, _, _, _, _, Nat.zero_le _, rfl, rfl, hD, hMd, Int.le_refl _⟩
      case round =>
        clear hD hMd
        obtain ⟨j, f, c, L, tv, T, last, hj, rfl, rfl, hD, HM, hlast⟩ := hrel
        have hlo := hD.d.b.lo
        by_cases hlt : j < ss.length
        · obtain ⟨g0, cap, s, ra, rc, hsv, hss, hcg⟩ := hD.s.open hlt
          simp only [Value.slice.injEq] at hsv
          obtain ⟨rfl, _, rfl⟩ := hsv
          have hN := HN.out j hlt
          rw [hss] at hN
          simp only at hN
          have hS0 := hD.s.four hlt hss
          have hrun := hD.s.run hlt hss
          have hTl := HM.out.len
          simp only [List.length_map] at hTl
          have hta := HM.out.taken hN
          rw [← ents_nil T] at hta
          have hW0 : Below wr.heap.size wr wr.drew := below_drewN (n := 1)
          have hj0 : (0 : Int) ≤ (j : Int) := by omega
          have hj1 : (j : Int) < (ss.length : Int) := by omega
          have HSS := Lib.hid hss
          have HNJ := Lib.hid hN
          clear hss hN
          cases f with
          | false =>
            have HC := Lib.hid (show ∀ w', Below wr.heap.size wr w' → ∀ g, ColsAt w' (.slice (some ⟨g, 0, none⟩) 1 1) → Calls Try.prog 48 #[.pointer (some ⟨p, 0, none⟩), .pointer (some ⟨pl, 0, none⟩), .agg #[.int .u64 s.own, .int .u64 s.xmin, .int .u64 s.xmax, .slice ra s.run.length rc], .string { data := #[116] }, .slice (some ⟨g, 0, none⟩) 1 1] w' fun r w'' => r = .returned (.tuple #[.int .u64 0, .int .i64 11]) ∧ Below w'.heap.size w' w'' from fun w' hb g hc =>
              create_taken (s := s) (hD.d.b.same hb) (hD.d.l.same hb) (hrun.same hb) nameT (by decide) hc isName_t 11 hta (by decide))
            clear hta
            go_wp2_with fail
            go_region_held3 (fun z => z.cell? ⟨g0, j * 4, none⟩ = some (.int .u64 s.own) ∧ z.cell? ⟨g0, j * 4 + 1, none⟩ = some (.int .u64 s.xmin) ∧ z.cell? ⟨g0, j * 4 + 2, none⟩ = some (.int .u64 s.xmax) ∧ z.cell? ⟨g0, j * 4 + 3, none⟩ = some (.slice ra s.run.length rc))
              (first | exact (hD.s.same hW2).four hlt HSS.out | exact (hD.s.same hW1).four hlt HSS.out | exact (hD.s.same hW0).four hlt HSS.out)
              (first
                | (have _h := hW1; go_at_call 48; (with_reducible refine (HC.out _ hW1 _ hcx).mono ?_); rintro e wy ⟨rfl, hky⟩; have hW2 := hW1.trans (hky.mono hW1.size))
                | (go_at_call 49; (with_reducible refine (one_at _).mono ?_); rintro e wx ⟨gx, rfl, _, hcx, hkx⟩; have hW1 := hW0.trans (hkx.mono hW0.size)))
            go_wp2_with fail
            go_roundw
            case rel => exact ⟨j + 1, false, _, _, _, _, _, by omega, by go_num, rfl, hD.same hW2, HM.out.late, by omega⟩
            case measure => simp [intOf]; omega
          | true =>
            have HC := Lib.hid (show ∀ w', Below wr.heap.size wr w' → ∀ g, ColsAt w' (.slice (some ⟨g, 0, none⟩) 1 1) → Calls Try.prog 48 #[.pointer (some ⟨p, 0, none⟩), .pointer (some ⟨pl, 0, none⟩), .agg #[.int .u64 s.own, .int .u64 s.xmin, .int .u64 s.xmax, .slice ra s.run.length rc], .string { data := #[116] }, .slice (some ⟨g, 0, none⟩) 1 1] w' fun r w'' => r = .returned (.tuple #[.int .u64 (last + 1), .int .i64 0]) ∧
                ∃ c' v' bt cv', Line w0 c' w'' pl p L v' (.slice none 0 0) (T ++ [(bt, ⟨last + 1, nameT, s.own, 0⟩, cv')]) [] (last + 1) (.slice (some ⟨g0, 0, none⟩) ss.length sc) ss from fun w' hb g hc =>
              line_create (s := s) (hD.same hb) (hrun.same hb) nameT (by decide) hc isName_t hta (by omega) (by omega))
            clear hta
            go_wp2_with fail
            go_region_held3 (fun z => z.cell? ⟨g0, j * 4, none⟩ = some (.int .u64 s.own) ∧ z.cell? ⟨g0, j * 4 + 1, none⟩ = some (.int .u64 s.xmin) ∧ z.cell? ⟨g0, j * 4 + 2, none⟩ = some (.int .u64 s.xmax) ∧ z.cell? ⟨g0, j * 4 + 3, none⟩ = some (.slice ra s.run.length rc))
              (first | exact hD2.s.four hlt HSS.out | exact (hD.s.same hW1).four hlt HSS.out | exact (hD.s.same hW0).four hlt HSS.out)
              (first
                | (have _h := hW1; go_at_call 48; (with_reducible refine (HC.out _ hW1 _ hcx).mono ?_); rintro e wy ⟨rfl, cy, vy, bt, cvy, hD2⟩)
                | (go_at_call 49; (with_reducible refine (one_at _).mono ?_); rintro e wx ⟨gx, rfl, _, hcx, hkx⟩; have hW1 := hW0.trans (hkx.mono hW0.size)))
            clear HC hS0
            have hb2 : Below w.heap.size w wy := b0.trans (hD2.d.below.mono b0.size)
            by_cases hab : j < n1
            · obtain ⟨b, off, v, ha, hbl, hcb⟩ := HB.out j hab
              subst ha
              have hcb2 := keeper hb2 hcb
              clear hcb
              cases v with
              | false =>
                go_wp2_with fail
                go_roundw
                case rel => exact ⟨j + 1, false, _, _, _, _, _, by omega, by go_num, rfl, hD2, by rw [List.map_append, HNJ.out.own]; exact HM.out.won hlt _, by omega⟩
                case measure => simp [intOf]; omega
              | true =>
                have hS2 := hD2.s.four hlt HSS.out
                go_wp2_with fail
                refine (line_abort hD2 _).mono ?_
                rintro e w5 ⟨rfl, hD5, _⟩
                go_wp2_with fail
                go_roundw
                case rel => exact ⟨j + 1, true, _, _, _, _, _, by omega, by go_num, rfl, hD5, by rw [List.map_append, HNJ.out.own]; exact HM.out.lost hlt _, by omega⟩
                case measure => simp [intOf]; omega
            · have hab' : ¬ (j : Int) < (n1 : Int) := by omega
              go_wp2_with fail
              go_roundw
              case rel => exact ⟨j + 1, false, _, _, _, _, _, by omega, by go_num, rfl, hD2, by rw [List.map_append, HNJ.out.own]; exact HM.out.won hlt _, by omega⟩
              case measure => simp [intOf]; omega
        · have hjl : j = ss.length := by omega
          subst hjl
          go_wp2_with fail
          go_ret
          exact ⟨rfl, b0.trans (hD.d.below.mono b0.size)⟩
end Go.Proofs.Ytdohkjpapmkhjaa
