/-
  BookPrunes, the walk: what is pruned is what nobody sees any more.
-/
import Derived.Test.YtdohkjpapmkhjaaPrnO
import Derived.Deep.CutRange
import Derived.Deep.CutBlock
import Derived.Test.YtdohkjpapmkhjaaPrnT
import Derived.Test.YtdohkjpapmkhjaaRests
namespace Go.Proofs.Ytdohkjpapmkhjaa
open Go.RowKit

set_option maxHeartbeats 20000000 in
set_option maxRecDepth 100000 in
theorem bookPrunes_any (a1 : Option Addr) (n1 cap1 : Nat) (w : World) (hs1 : ScriptP w a1 n1) :
    Calls Try.prog 15 #[.slice a1 n1 cap1] w fun e w' => e = .returned (.bool true) ∧ Below w.heap.size w w' := by
  have hmm := @run_makeMap Try.prog
  obtain ⟨i23, hi23, hz230, hz231, hz232⟩ := info_parts Try.info23
  obtain ⟨i66, hi66, hz660, hz661, hz662⟩ := info_parts Try.info66
  have HS1 := Lib.hid hs1; clear hs1
  go_enter Try.func15, Try.ntmps15
  go_wp2_with fail
  refine (awake_eleven w).mono ?_
  rintro e w1 ⟨rfl, b1⟩
  go_wp2_with fail
  refine (new_own 1 w1 (by decide) (by decide)).mono ?_
  rintro e w2 ⟨rfl, l2, b2⟩
  go_wp2_with fail
  refine (bnew_at w2 (own w1.heap.size) 2).mono ?_
  rintro e w3 ⟨rfl, hb3, b3⟩
  go_wp2_with fail
  have hal3 : Below w3.heap.size w3 (w3.alloc (.map #[] 0)) := (Below.refl _ _).alloc (Nat.le_refl _) _
  have hR0 : Prn w1 w3.heap.size w1.heap.size w2.heap.size (.slice none 0 0) (col (col (own w1.heap.size) w2.heap.size 2) w3.heap.size 3) (w3.alloc (.map #[] 0)) [] (fun _ => none) [] [] 0 :=
    ⟨(((l2.recol (fun b hb => col_old hb)).same b3).recol (fun b hb => col_old hb)).same hal3, ⟨_, _, _, _, _, (hb3.recol (fun b hb => col_old hb)).same hal3, ⟨by simp, fun t ht => by cases ht⟩, by decide⟩, MapOf.made w3 (Value.int .u64), col_new (Nat.le_refl _), fun y => rfl, by simp [Once], (fun y z e => by cases e), World.ownsRow_nil _ _ _ _, (fun g hg => by simp [Value.ownBlock] at hg),
      fun b hb => by
        have h1 := b2.size
        have h2 := b3.size
        rw [col_old (by omega), col_old (by omega), own, col_old hb], (b2.trans (b3.mono b2.size)).alloc (Nat.le_trans b2.size b3.size) _⟩
  obtain ⟨ub, hub⟩ : ∃ ub, ub = w3.heap.size := ⟨_, rfl⟩
  obtain ⟨p, hp⟩ : ∃ p, p = w2.heap.size := ⟨_, rfl⟩
  obtain ⟨pl, hpl⟩ : ∃ pl, pl = w1.heap.size := ⟨_, rfl⟩
  obtain ⟨c0, hc0⟩ : ∃ c0, c0 = col (col (own w1.heap.size) w2.heap.size 2) w3.heap.size 3 := ⟨_, rfl⟩
  rw [← hc0] at hR0
  rw [← hub, ← hpl, ← hp] at hR0
  rw [← hub, ← hpl, ← hp]
  clear hc0 hub hpl hp l2 hb3 hal3 b2 b3
  have hV0 : PrnOk [] (fun _ => none) := ⟨Lives.start, fun y z e => by cases e⟩
  go_loopw [7, 39] (fun ov iv wr => ∃ (j : Nat) (L : List Nat) (lv : Int → Option (Snp × Value)) (m : List (Int × Value)) (O : List Int) (n : Int) (c : Nat → Nat), j ≤ n1 ∧ iv = .int .i64 j ∧ Prn w1 ub pl p ov c wr L lv m O n ∧ PrnOk L lv ∧ L.length ≤ j ∧ O.length ≤ j ∧ j ≤ 40 ∧ 0 ≤ n ∧ n ≤ j) (fun _ iv _ => n1 - (intOf iv).toNat)
  case atStart => exact ⟨0, _, _, _, _, _, _, Nat.zero_le _, rfl, hR0, hV0, Nat.le_refl _, Nat.le_refl _, by decide, by decide, by decide⟩
  case round =>
    clear hR0 hV0
    obtain ⟨j, L, lv, m, O, n, c, hj, rfl, hR, hV, hLj, hOj, hj40, hn0, hnj⟩ := hrel
    have hBw := b1.trans (hR.below.mono b1.size)
    by_cases hlt : j < n1
    · obtain ⟨b, off, d, who, nm, tb, cn, ca, cl, cc, ha, hb, e0, e1, e2, e3, e4, e5, d0, d1, w0', w1', hnm, htb⟩ := HS1.out j hlt
      subst ha
      have f0 := (hBw.cell (p := ⟨b, off + j * 6, none⟩) hb).trans e0
      have f1 := (hBw.cell (p := ⟨b, off + j * 6 + 1, none⟩) hb).trans e1
      have f2 := (hBw.cell (p := ⟨b, off + j * 6 + 2, none⟩) hb).trans e2
      have f3 := (hBw.cell (p := ⟨b, off + j * 6 + 3, none⟩) hb).trans e3
      have f4 := (hBw.cell (p := ⟨b, off + j * 6 + 4, none⟩) hb).trans e4
      have f5 := (hBw.cell (p := ⟨b, off + j * 6 + 5, none⟩) hb).trans e5
      have ji0 : (0 : Int) ≤ (j : Int) := by omega
      have ji1 : (j : Int) < (n1 : Int) := by omega
      clear e0 e1 e2 e3 e4 e5
      by_cases h40 : j = 40
      · have h40' : (j : Int) ≥ 40 := by omega
        have HE := Lib.hid (hBw)
        clear hBw h40 hj40 hLj hOj hnj
        go_wp2_with fail
        go_ret
        exact ⟨rfl, HE.out.trans ((below_alloc _ _).mono HE.out.size)⟩
      · have h40' : ¬ (j : Int) ≥ 40 := by omega
        go_upto_block 1 with fail
        go_cut [7] from 41 to 221 (fun ov wx => ∃ (L : List Nat) (lv : Int → Option (Snp × Value)) (m : List (Int × Value)) (O : List Int) (n : Int) (c : Nat → Nat), Prn w1 ub pl p ov c wx L lv m O n ∧ PrnOk L lv ∧ L.length ≤ j + 1 ∧ O.length ≤ j + 1 ∧ 0 ≤ n ∧ n ≤ j + 1)
        case first =>
          obtain ⟨oa, oc, hov⟩ := ownsRow_slice hR.o
          subst hov
          have hH := heap_new1 wr (.cells #[.int .u8 d, .int .u8 who, .string nm, .string tb, .string cn, .slice ca cl cc] 119)
          have hRa := hR.same (below_alloc wr (.cells #[.int .u8 d, .int .u8 who, .string nm, .string tb, .string cn, .slice ca cl cc] 119))
          have HRA := Lib.hid hRa; have HHB := Lib.hid hH
          clear hH hRa hR hBw h40
          go_upto_region 11 with fail
          obtain ⟨wa, hwa⟩ : ∃ wa, wa = wr.alloc (.cells #[.int .u8 d, .int .u8 who, .string nm, .string tb, .string cn, .slice ca cl cc] 119) := ⟨_, rfl⟩
          obtain ⟨q9, hq9⟩ : ∃ q9, q9 = wr.heap.size := ⟨_, rfl⟩
          rw [← hwa] at HRA HHB ⊢
          rw [← hq9] at HHB ⊢
          clear hwa hq9
          have g0 : wa.cell? ⟨q9, 0, none⟩ = some (.int .u8 d) := cell_of_block HHB.out rfl
          by_cases hfst : d % 10 = 0 ∨ O.length = 0
          · have hq1 : (d % 10 == 0) = true ∨ ((d % 10 == 0) = false ∧ ((O.length : Int) == 0) = true) := by
              by_cases h : d % 10 = 0
              · exact .inl (by rw [beq_iff_eq]; exact h)
              · exact .inr ⟨by rw [beq_eq_false_iff_ne]; exact h, by rw [beq_iff_eq]; omega⟩
            have HBEG := Lib.hid (prn_begin HRA.out (by omega))
            go_upto_region 11 with fail
            go_cut [54] from 41 to 221 (fun v wx => v = .bool true ∧ wx = wa)
            case first =>
              rcases hq1 with h | ⟨h, h2⟩
              · go_wp2_with fail
                go_meet
                exact ⟨rfl, rfl⟩
              · go_wp2_with fail
                go_meet
                exact ⟨rfl, rfl⟩
            case rest =>
              obtain ⟨rfl, hwc⟩ := hcut
              obtain ⟨wd, hwd⟩ : ∃ wd, wd = wc := ⟨_, rfl⟩
              subst hwd
              subst hwc
              clear hq1 hfst
              go_wp2_with fail
              refine HBEG.out.mono ?_
              rintro e we ⟨rfl, cb, hRb⟩
              clear HBEG HRA HHB g0
              as_aux_lemma =>
              go_wp2_with fail
              refine (prn_take hRb _).mono ?_
              rintro e wt ⟨rv, rfl, hrun, ct, hgt, hRt⟩
              obtain ⟨ra, rc, hrv⟩ := ownsRow_slice hrun.1
              subst hrv
              unfold Snp.val
              clear hRb
              go_upto_region 14 with (at_mapUpdate; refine wpList_update_map rfl _ _ _ 81 rfl 23 66 key23 Try.underlying81 _ _ rfl hRt.mp (1 + (L.length : Int)) (Snp.val _ _) rfl rfl ?_; intro wb hmb hub)
              have hRp := hRt.put hrun hgt _ hmb hub
              have hdd := hRp.o
              clear hmb hub hRt hrun hgt
              go_wp2_with (at_builtin; refine wpList_append_mine rfl (.tmp 65) (.tmp 67) 30 rfl 0 23 i23 (.int .u64 0) 1 8 Try.underlying30 hi23 hz230 hz231 hz232 rfl (by decide) _ _ _ rfl (World.ownsRow.alloc hdd _) ⟨wb.heap.size, 0, none⟩ 1 1 [.int .u64 (1 + (L.length : Int))] rfl rfl ?c1 ?c2 ?c3 ?c4 ?c5 ?_)
              case c1 => exact news_block (heap_new1 wb _)
              case c2 => intro u hu; simp at hu; subst hu; rfl
              case c3 => unfold maxLen; omega
              case c4 => omega
              case c5 => omega
              intro v' w5 hown' hupd hnew
              have hRa := hRp.same (below_alloc wb (.cells #[.int .u64 (1 + (L.length : Int))] 23))
              have hRg := hRa.grow hown' hupd (fun g hg => by have := hnew g hg; simpa using this)
              have hVg := hV.begin (.slice ra (take 1 (L ++ [1]) (1 + (L.length : Int))).run.length rc)
              clear hown' hupd hnew hRa hRp hdd hV
              go_wp2_with fail
              go_meet
              exact ⟨_, _, _, _, _, _, hRg, hVg, by simp; omega, by simp; omega, hn0, by omega⟩
          · have hq1 : (d % 10 == 0) = false ∧ ((O.length : Int) == 0) = false := by
              exact ⟨by rw [beq_eq_false_iff_ne]; omega, by rw [beq_eq_false_iff_ne]; omega⟩
            go_upto_region 11 with fail
            go_cut [54] from 41 to 221 (fun v wx => v = .bool false ∧ wx = wa)
            case first =>
              obtain ⟨h, h2⟩ := hq1
              go_wp2_with fail
              go_meet
              exact ⟨rfl, rfl⟩
            case rest =>
              obtain ⟨rfl, hwc⟩ := hcut
              obtain ⟨wd, hwd⟩ : ∃ wd, wd = wc := ⟨_, rfl⟩
              subst hwd
              subst hwc
              clear hq1
              obtain ⟨i, hi, hiw⟩ : ∃ i : Nat, i < O.length ∧ who % (O.length : Int) = i := ⟨(who % (O.length : Int)).toNat, by
                have h1 := Int.emod_lt_of_pos who (b := (O.length : Int)) (by omega)
                have h2 := Int.emod_nonneg who (b := (O.length : Int)) (by omega)
                omega, by
                have h2 := Int.emod_nonneg who (b := (O.length : Int)) (by omega)
                omega⟩
              have hit : who.tmod (O.length : Int) = i := by rw [Int.tmod_eq_emod_of_nonneg w0']; exact hiw
              obtain ⟨g7, cap7, hsl, hcx, _, _, hg7⟩ := ownsRow_cell1 HRA.out.o (j := i) (u := .int .u64 O[i]) (by simp [u64s, hi])
              simp only [Value.slice.injEq] at hsl
              obtain ⟨rfl, _, rfl⟩ := hsl
              obtain ⟨x, hx⟩ : ∃ x, x = O[i] := ⟨_, rfl⟩
              rw [← hx] at hcx
              clear hx
              have g1 : wd.cell? ⟨q9, 1, none⟩ = some (.int .u8 who) := cell_of_block HHB.out rfl
              have hi0 : (0 : Int) ≤ (i : Int) := by omega
              have hi1 : (i : Int) < (O.length : Int) := by omega
              have hl0 : ¬ (O.length : Int) = 0 := by omega
              have hd0 : ¬ d % 10 = 0 := fun e => hfst (.inl e)
              clear hfst
              go_upto_region 16 with fail
              have hlk := run_lookup_map HRA.out.mp key23 Try.underlying81 (zero66 wd) x true
              rw [HRA.out.get] at hlk
              cases hz : lv x with
              | none =>
                rw [hz] at hlk
                have hlk2 : (Instr.lookup 81 (.map (some ub)) (.int .u64 x) true).run Try.prog wd = .ok (.tuple #[.agg #[.int .u64 0, .int .u64 0, .int .u64 0, .slice none 0 0], .bool false]) wd := hlk
                have hRn := HRA.out.same (below_alloc wd (.cells #[.int .u64 0, .int .u64 0, .int .u64 0, .slice none 0 0] 66))
                clear hlk hz HRA
                go_wp2_with fail
                go_meet
                exact ⟨L, lv, m, O, n, c, hRn, hV, by omega, by omega, hn0, by omega⟩
              | some z =>
                rw [hz] at hlk
                have hzr := HRA.out.live _ _ hz
                obtain ⟨s, rv⟩ := z
                obtain ⟨ra, rc, hrv⟩ := ownsRow_slice hzr.1.1
                simp only at hrv
                subst hrv
                have hlk2 : (Instr.lookup 81 (.map (some ub)) (.int .u64 x) true).run Try.prog wd = .ok (.tuple #[.agg #[.int .u64 s.own, .int .u64 s.xmin, .int .u64 s.xmax, .slice ra s.run.length rc], .bool true]) wd := hlk
                have hal : Below wd.heap.size wd (wd.alloc (.cells #[.int .u64 s.own, .int .u64 s.xmin, .int .u64 s.xmax, .slice ra s.run.length rc] 66)) := below_alloc wd _
                have hH13 := heap_new1 wd (.cells #[.int .u64 s.own, .int .u64 s.xmin, .int .u64 s.xmax, .slice ra s.run.length rc] 66)
                have hR1 := (HRA.out.recol (c' := col c wd.heap.size 8) (fun b hb => col_old hb)).same hal
                have hc8 : col c wd.heap.size 8 wd.heap.size = 8 := col_new (Nat.le_refl _)
                have hrun := hzr.1.same hal
                have g0' := keeper hal g0
                have g2' := keeper hal (cell_of_block HHB.out rfl : wd.cell? ⟨q9, 2, none⟩ = some (.string nm))
                have g3' := keeper hal (cell_of_block HHB.out rfl : wd.cell? ⟨q9, 3, none⟩ = some (.string tb))
                obtain ⟨c1, hc1⟩ : ∃ c1, c1 = col c wd.heap.size 8 := ⟨_, rfl⟩
                rw [← hc1] at hR1 hc8
                clear hlk hzr HRA HHB g0 g1 hcx hit hc1 hg7
                go_upto_region 18 with fail
                obtain ⟨we, hwe⟩ : ∃ we, we = wd.alloc (.cells #[.int .u64 s.own, .int .u64 s.xmin, .int .u64 s.xmax, .slice ra s.run.length rc] 66) := ⟨_, rfl⟩
                obtain ⟨q13, hq13⟩ : ∃ q13, q13 = wd.heap.size := ⟨_, rfl⟩
                rw [← hwe] at hal hH13 hR1 hrun g0' g2' g3' ⊢
                rw [← hq13] at hH13 hc8 ⊢
                clear hwe hq13 hal hlk2
                have hdr : Below we.heap.size we we.drew := below_drewN (n := 1)
                have hR1' := hR1.same hdr
                have hH13' := (Upd.same (S := fun _ => False) hdr).heap hH13 id
                have hrun' := hrun.same hdr
                have k0 := keeper hdr g0'
                have k2 := keeper hdr g2'
                have k3 := keeper hdr g3'
                go_region_held3 (fun z => z.cell? ⟨q9, 2, none⟩ = some (.string nm) ∧ z.cell? ⟨q9, 3, none⟩ = some (.string tb)) (exact ⟨k2, k3⟩)
                  (first
                    | (go_at_call 46; (with_reducible refine (few_whole nm _ hnm).mono ?_); rintro e wx ⟨rfl, rfl⟩)
                    | (go_at_call 46; (with_reducible refine (few_whole tb _ htb).mono ?_); rintro e wx ⟨rfl, rfl⟩))
                obtain ⟨wf, hwf⟩ : ∃ wf, wf = we.drew := ⟨_, rfl⟩
                obtain ⟨name, hname⟩ : ∃ name, name = cut30 nm := ⟨_, rfl⟩
                obtain ⟨table, htable⟩ : ∃ table, table = cut30 tb := ⟨_, rfl⟩
                have hns : name.size ≤ 30 := by rw [hname]; exact size_cut30 nm
                rw [← hwf] at hR1' hH13' hrun' k0 ⊢
                rw [← hname, ← htable]
                clear hR1 hH13 hrun g0' g2' g3' k2 k3 hdr hwf hname htable
                have hd9 : d % 10 = 1 ∨ d % 10 = 2 ∨ d % 10 = 3 ∨ d % 10 = 4 ∨ d % 10 = 5 ∨ d % 10 = 6 ∨ d % 10 = 7 ∨ d % 10 = 8 ∨ d % 10 = 9 := by omega
                go_upto_block 2 with fail
                rcases hd9 with h | h | h | h | h | h | h | h | h <;> rw [h]
                · as_aux_lemma =>
                  have HC := Lib.hid (prn_commit hR1' x)
                  clear hR1'
                  go_wp2_with (first
                    | (go_at_call 23; (with_reducible refine HC.out.mono ?_); rintro e wx ⟨rfl, hRb⟩)
                    | (at_delete; refine wpList_delete_map rfl _ _ 81 23 rfl 66 key23 Try.underlying81 _ _ rfl hRb.mp x rfl ?_; intro wy hmb hub))
                  go_meet
                  exact ⟨_, _, _, _, _, _, hRb.del x hmb hub, hV.ended x (by decide), by rw [length_ended]; omega, by omega, hn0, by omega⟩
                · as_aux_lemma =>
                  have HC := Lib.hid (prn_abort hR1' x)
                  clear hR1'
                  go_wp2_with (first
                    | (go_at_call 25; (with_reducible refine HC.out.mono ?_); rintro e wx ⟨rfl, hRb⟩)
                    | (at_delete; refine wpList_delete_map rfl _ _ 81 23 rfl 66 key23 Try.underlying81 _ _ rfl hRb.mp x rfl ?_; intro wy hmb hub))
                  go_meet
                  exact ⟨_, _, _, _, _, _, hRb.del x hmb hub, hV.ended x (by decide), by rw [length_ended]; omega, by omega, hn0, by omega⟩
                · as_aux_lemma =>
                  have HC := Lib.hid (show ∀ w', Below wf.heap.size wf w' → ∀ g, ColsAt w' (.slice (some ⟨g, 0, none⟩) 1 1) → Calls Try.prog 48 #[.pointer (some ⟨p, 0, none⟩), .pointer (some ⟨pl, 0, none⟩), .agg #[.int .u64 s.own, .int .u64 s.xmin, .int .u64 s.xmax, .slice ra s.run.length rc], .string name, .slice (some ⟨g, 0, none⟩) 1 1] w' fun r w'' => (∃ a b, r = .returned (.tuple #[.int .u64 a, .int .i64 b])) ∧ (∃ c', Prn w1 ub pl p (.slice (some ⟨g7, 0, none⟩) O.length oc) c' w'' L lv m O (n + 1)) ∧ Upd (fun b => c1 b = 2) w' w'' from fun w' hb g hc => by
                    refine (create_any (hR1'.same hb).b (by omega) (hR1'.same hb).l (hrun'.same hb) name (by omega) hc).mono ?_
                    rintro r w'' ⟨h1, h2, h3⟩
                    exact ⟨h1, (hR1'.same hb).step h2 h3, h3⟩)
                  have a0 := cell_of_block hH13' (i := 0) rfl
                  have a1 := cell_of_block hH13' (i := 1) rfl
                  have a2 := cell_of_block hH13' (i := 2) rfl
                  have a3 := cell_of_block hH13' (i := 3) rfl
                  have hW0 : Below wf.heap.size wf wf.drew := below_drewN (n := 1)
                  clear hR1' hrun' hH13' k0
                  go_wp2_with fail
                  go_region_held3 (fun z => z.cell? ⟨q13, 0, none⟩ = some (.int .u64 s.own) ∧ z.cell? ⟨q13, 1, none⟩ = some (.int .u64 s.xmin) ∧ z.cell? ⟨q13, 2, none⟩ = some (.int .u64 s.xmax) ∧ z.cell? ⟨q13, 3, none⟩ = some (.slice ra s.run.length rc))
                    (first | exact ⟨u2.cell a0 (by simp only [hc8]; decide), u2.cell a1 (by simp only [hc8]; decide), u2.cell a2 (by simp only [hc8]; decide), u2.cell a3 (by simp only [hc8]; decide)⟩ | exact ⟨keeper hW1 a0, keeper hW1 a1, keeper hW1 a2, keeper hW1 a3⟩ | exact ⟨keeper hW0 a0, keeper hW0 a1, keeper hW0 a2, keeper hW0 a3⟩)
                    (first
                      | (have _h := hW1; go_at_call 48; (with_reducible refine (HC.out _ hW1 _ hcx).mono ?_); rintro e wy ⟨⟨ea, eb, rfl⟩, ⟨cb, hRb⟩, uy⟩; have u2 : Upd (fun b => c1 b = 2) wf wy := (Upd.same hW1).trans uy)
                      | (go_at_call 49; (with_reducible refine (one_at _).mono ?_); rintro e wx ⟨gx, rfl, _, hcx, hkx⟩; have hW1 := hW0.trans (hkx.mono hW0.size)))
                  go_wp2_with fail
                  go_meet
                  exact ⟨_, _, _, _, _, _, hRb, hV, by omega, by omega, by omega, by omega⟩
                · as_aux_lemma =>
                  have HC := Lib.hid (show ∀ w', Below wf.heap.size wf w' → ∀ g, ColsAt w' (.slice (some ⟨g, 0, none⟩) 1 1) → Calls Try.prog 48 #[.pointer (some ⟨p, 0, none⟩), .pointer (some ⟨pl, 0, none⟩), .agg #[.int .u64 s.own, .int .u64 s.xmin, .int .u64 s.xmax, .slice ra s.run.length rc], .string name, .slice (some ⟨g, 0, none⟩) 1 1] w' fun r w'' => (∃ a b, r = .returned (.tuple #[.int .u64 a, .int .i64 b])) ∧ (∃ c', Prn w1 ub pl p (.slice (some ⟨g7, 0, none⟩) O.length oc) c' w'' L lv m O (n + 1)) ∧ Upd (fun b => c1 b = 2) w' w'' from fun w' hb g hc => by
                    refine (create_any (hR1'.same hb).b (by omega) (hR1'.same hb).l (hrun'.same hb) name (by omega) hc).mono ?_
                    rintro r w'' ⟨h1, h2, h3⟩
                    exact ⟨h1, (hR1'.same hb).step h2 h3, h3⟩)
                  have a0 := cell_of_block hH13' (i := 0) rfl
                  have a1 := cell_of_block hH13' (i := 1) rfl
                  have a2 := cell_of_block hH13' (i := 2) rfl
                  have a3 := cell_of_block hH13' (i := 3) rfl
                  have hW0 : Below wf.heap.size wf wf.drew := below_drewN (n := 1)
                  clear hR1' hrun' hH13' k0
                  go_wp2_with fail
                  go_region_held3 (fun z => z.cell? ⟨q13, 0, none⟩ = some (.int .u64 s.own) ∧ z.cell? ⟨q13, 1, none⟩ = some (.int .u64 s.xmin) ∧ z.cell? ⟨q13, 2, none⟩ = some (.int .u64 s.xmax) ∧ z.cell? ⟨q13, 3, none⟩ = some (.slice ra s.run.length rc))
                    (first | exact ⟨u2.cell a0 (by simp only [hc8]; decide), u2.cell a1 (by simp only [hc8]; decide), u2.cell a2 (by simp only [hc8]; decide), u2.cell a3 (by simp only [hc8]; decide)⟩ | exact ⟨keeper hW1 a0, keeper hW1 a1, keeper hW1 a2, keeper hW1 a3⟩ | exact ⟨keeper hW0 a0, keeper hW0 a1, keeper hW0 a2, keeper hW0 a3⟩)
                    (first
                      | (have _h := hW1; go_at_call 48; (with_reducible refine (HC.out _ hW1 _ hcx).mono ?_); rintro e wy ⟨⟨ea, eb, rfl⟩, ⟨cb, hRb⟩, uy⟩; have u2 : Upd (fun b => c1 b = 2) wf wy := (Upd.same hW1).trans uy)
                      | (go_at_call 49; (with_reducible refine (one_at _).mono ?_); rintro e wx ⟨gx, rfl, _, hcx, hkx⟩; have hW1 := hW0.trans (hkx.mono hW0.size)))
                  go_wp2_with fail
                  go_meet
                  exact ⟨_, _, _, _, _, _, hRb, hV, by omega, by omega, by omega, by omega⟩
                · as_aux_lemma =>
                  have hC := prn_mkind hR1' (by omega) hrun' name table (by omega)
                  unfold Snp.val nameA at hC
                  have HC := Lib.hid hC
                  clear hC
                  have a0 := cell_of_block hH13' (i := 0) rfl
                  have a1 := cell_of_block hH13' (i := 1) rfl
                  have a2 := cell_of_block hH13' (i := 2) rfl
                  have a3 := cell_of_block hH13' (i := 3) rfl
                  clear hR1' hrun'
                  go_wp2_with (go_at_call 53; (with_reducible refine HC.out.mono ?_); rintro e wx ⟨⟨ea, eb, rfl⟩, cb, hRb⟩)
                  go_meet
                  exact ⟨_, _, _, _, _, _, hRb, hV, by omega, by omega, by omega, by omega⟩
                · as_aux_lemma =>
                  have hC := prn_mkind hR1' (by omega) hrun' name table (by omega)
                  unfold Snp.val nameA at hC
                  have HC := Lib.hid hC
                  clear hC
                  have a0 := cell_of_block hH13' (i := 0) rfl
                  have a1 := cell_of_block hH13' (i := 1) rfl
                  have a2 := cell_of_block hH13' (i := 2) rfl
                  have a3 := cell_of_block hH13' (i := 3) rfl
                  clear hR1' hrun'
                  go_wp2_with (go_at_call 53; (with_reducible refine HC.out.mono ?_); rintro e wx ⟨⟨ea, eb, rfl⟩, cb, hRb⟩)
                  go_meet
                  exact ⟨_, _, _, _, _, _, hRb, hV, by omega, by omega, by omega, by omega⟩
                · as_aux_lemma =>
                  have hC := prn_drop hR1' hrun' name
                  unfold Snp.val at hC
                  have HC := Lib.hid hC
                  clear hC
                  have a0 := cell_of_block hH13' (i := 0) rfl
                  have a1 := cell_of_block hH13' (i := 1) rfl
                  have a2 := cell_of_block hH13' (i := 2) rfl
                  have a3 := cell_of_block hH13' (i := 3) rfl
                  clear hR1' hrun'
                  go_wp2_with (go_at_call 52; (with_reducible refine HC.out.mono ?_); rintro e wx ⟨⟨ea, eb, rfl⟩, cb, hRb⟩)
                  go_meet
                  exact ⟨_, _, _, _, _, _, hRb, hV, by omega, by omega, by omega, by omega⟩
                · as_aux_lemma =>
                  have hC := prn_dropi hR1' hrun' name
                  unfold Snp.val at hC
                  have HC := Lib.hid hC
                  clear hC
                  have a0 := cell_of_block hH13' (i := 0) rfl
                  have a1 := cell_of_block hH13' (i := 1) rfl
                  have a2 := cell_of_block hH13' (i := 2) rfl
                  have a3 := cell_of_block hH13' (i := 3) rfl
                  clear hR1' hrun'
                  go_wp2_with (go_at_call 56; (with_reducible refine HC.out.mono ?_); rintro e wx ⟨⟨er, rfl⟩, cb, hRb⟩)
                  go_meet
                  exact ⟨_, _, _, _, _, _, hRb, hV, by omega, by omega, by omega, by omega⟩
                · as_aux_lemma =>
                  clear hH13' hrun' k0 hns d0 d1 hd0 h
                  have hR2 := hR1'.recol (c' := col c1 wf.heap.size 7) (fun b hb => col_old hb)
                  have hc7 : col c1 wf.heap.size 7 wf.heap.size = 7 := col_new (Nat.le_refl _)
                  obtain ⟨c2, hc2⟩ : ∃ c2, c2 = col c1 wf.heap.size 7 := ⟨_, rfl⟩
                  rw [← hc2] at hR2 hc7
                  clear hR1' hc2
                  obtain ⟨tv, iv, T, I, last, HB, hids, hlast⟩ := hR2.b
                  have hwm0 : (wf.alloc (.map #[] 0)).ownsMap (H := Unit) Try.prog 23 (plainElem Try.prog 23) wf.heap.size 0 (.map []) := World.ownsMap_made _ _ _ _
                  have hal0 : Below wf.heap.size wf (wf.alloc (.map #[] 0)) := below_alloc wf _
                  have hsz0 : wf.heap.size < (wf.alloc (.map #[] 0)).heap.size := by simp
                  have hwas0 : WasOk lv (fun s => seenN L s name T I) (O.take 0) (.map []) := WasOk.start
                  have hO41 : O.length ≤ 41 := by omega
                  have HR := Lib.hid hR2
                  have HBK := Lib.hid HB
                  clear hR2 HB
                  go_wp2_with fail
                  go_loopw [17, 98] (fun av iv wr => ∃ (k : Nat) (D : DataW Unit), k ≤ O.length ∧ iv = .int .i64 k ∧ wr.ownsRow (wf.heap.size + 1) 66 4 av (allOf lv (O.take k)).length ((allOf lv (O.take k)).flatMap snapCells) ∧ wr.ownsMap Try.prog 23 (plainElem Try.prog 23) wf.heap.size k D ∧
                    WasOk lv (fun s => seenN L s name T I) (O.take k) D ∧ Below wf.heap.size wf wr ∧ wf.heap.size < wr.heap.size) (fun _ iv _ => O.length - (intOf iv).toNat)
                  case atStart => exact ⟨0, .map [], Nat.zero_le _, rfl, World.ownsRow_nil _ _ _ _, hwm0, hwas0, hal0, hsz0⟩
                  case round =>
                    clear hwm0 hal0 hsz0 hwas0
                    obtain ⟨k, D, hk, rfl, hown, hmap, hwas, hB, hsz⟩ := hrel
                    by_cases hkl : k < O.length
                    · have hP := HR.out.same hB
                      obtain ⟨g8, cap8, hsl8, hcy, _, _, _⟩ := ownsRow_cell1 hP.o (j := k) (u := .int .u64 O[k]) (by simp [u64s, hkl])
                      simp only [Value.slice.injEq, Option.some.injEq, Addr.mk.injEq] at hsl8
                      obtain ⟨⟨rfl, _⟩, _, rfl⟩ := hsl8
                      have hat := allOf_take (lv := lv) hkl
                      have htk : O.take (k + 1) = O.take k ++ [O[k]] := by rw [List.take_add_one, List.getElem?_eq_getElem hkl]; rfl
                      have hal := allOf_le lv (O.take k)
                      rw [List.length_take] at hal
                      obtain ⟨y, hy⟩ : ∃ y, y = O[k] := ⟨_, rfl⟩
                      rw [← hy] at hcy hat htk
                      clear hy
                      have hlk := run_lookup_map hP.mp key23 Try.underlying81 (zero66 wr) y true
                      rw [hP.get] at hlk
                      have hk0 : (0 : Int) ≤ (k : Int) := by omega
                      have hk1 : (k : Int) < (O.length : Int) := by omega
                      cases hz : lv y with
                      | none =>
                        rw [hz] at hlk hat
                        rw [List.append_nil] at hat
                        have hlk2 : (Instr.lookup 81 (.map (some ub)) (.int .u64 y) true).run Try.prog wr = .ok (.tuple #[.agg #[.int .u64 0, .int .u64 0, .int .u64 0, .slice none 0 0], .bool false]) wr := hlk
                        have HAT := Lib.hid hat
                        have HTK := Lib.hid htk
                        clear hlk hz hat htk hP
                        go_wp2_with fail
                        go_roundw
                        case rel => exact ⟨k + 1, D, by omega, by go_num, by rw [HAT.out]; exact World.ownsRow.alloc hown _, (hmap.alloc _).mono (by omega), by rw [HTK.out]; exact hwas.more y, hB.alloc hB.size _, by simp; omega⟩
                        case measure => simp [intOf]; omega
                      | some z =>
                        as_aux_lemma =>
                        rw [hz] at hlk hat
                        have hzr := (hP.live _ _ hz).1
                        have hyr := (hV.lives.run y).1 (by rw [hz]; rfl)
                        have hyb := stt_lt (f := 1) (L := L) (x := y) (by omega)
                        have hwas2 := hwas.put hz
                        obtain ⟨t, rv2⟩ := z
                        obtain ⟨ra2, rc2, hrv2⟩ := ownsRow_slice hzr.1
                        simp only at hrv2
                        subst hrv2
                        have hlk2 : (Instr.lookup 81 (.map (some ub)) (.int .u64 y) true).run Try.prog wr = .ok (.tuple #[.agg #[.int .u64 t.own, .int .u64 t.xmin, .int .u64 t.xmax, .slice ra2 t.run.length rc2], .bool true]) wr := hlk
                        have hH21 := heap_new1 wr (.cells #[.int .u64 t.own, .int .u64 t.xmin, .int .u64 t.xmax, .slice ra2 t.run.length rc2] 66)
                        have hal1 : Below wr.heap.size wr (wr.alloc (.cells #[.int .u64 t.own, .int .u64 t.xmin, .int .u64 t.xmax, .slice ra2 t.run.length rc2] 66)) := below_alloc wr _
                        have hown1 := World.ownsRow.alloc hown (.cells #[.int .u64 t.own, .int .u64 t.xmin, .int .u64 t.xmax, .slice ra2 t.run.length rc2] 66)
                        have hmap1 := hmap.alloc (.cells #[.int .u64 t.own, .int .u64 t.xmin, .int .u64 t.xmax, .slice ra2 t.run.length rc2] 66)
                        have hB1 := hB.trans (hal1.mono hB.size)
                        have hlt : ∀ b, u17.ownBlock = some b → wf.heap.size + 1 ≤ b ∧ b < wr.heap.size := fun b hb => World.ownsRow.lt hown b hb
                        have HAT := Lib.hid hat
                        have HTK := Lib.hid htk
                        have HW2 := Lib.hid hwas2
                        have HLT := Lib.hid hlt
                        have HZ := Lib.hid hz
                        clear hlk hz hat htk hwas hwas2 hP hlt hown hmap hB hzr
                        go_upto_region 26 with fail
                        obtain ⟨wx, hwx⟩ : ∃ wx, wx = wr.alloc (.cells #[.int .u64 t.own, .int .u64 t.xmin, .int .u64 t.xmax, .slice ra2 t.run.length rc2] 66) := ⟨_, rfl⟩
                        obtain ⟨q21, hq21⟩ : ∃ q21, q21 = wr.heap.size := ⟨_, rfl⟩
                        have hq21' : q21 < wx.heap.size := by rw [hwx, hq21]; simp
                        have hq21b : wf.heap.size < q21 := by rw [hq21]; exact hsz
                        rw [← hwx] at hal1 hH21 hown1 hmap1 hB1 ⊢
                        rw [← hq21] at hH21 HLT ⊢
                        have hsz1 : wf.heap.size < wx.heap.size := by omega
                        clear hwx hal1 hlk2 hsz hq21
                        have hz660' : i66.zero = some (.agg #[.int .u64 0, .int .u64 0, .int .u64 0, .slice none 0 0]) := hz660
                        have a0 := cell_of_block hH21 (i := 0) rfl
                        have a1 := cell_of_block hH21 (i := 1) rfl
                        have a2 := cell_of_block hH21 (i := 2) rfl
                        have a3 := cell_of_block hH21 (i := 3) rfl
                        go_upto_region 28 with (at_builtin; refine wpList_append_mine rfl (.tmp 109) (.tmp 111) 61 rfl (wf.heap.size + 1) 66 i66 (.agg #[.int .u64 0, .int .u64 0, .int .u64 0, .slice none 0 0]) 4 48 Try.underlying61 hi66 hz660' hz661 hz662 rfl (by decide) _ _ _ rfl (World.ownsRow.alloc hown1 _) ⟨wx.heap.size, 0, none⟩ 1 1 (snapCells (t, .slice ra2 t.run.length rc2)) rfl rfl ?c1 ?c2 ?c3 ?c4 ?c5 ?_)
                        case c1 => first | exact fun j u h => h | exact news_block (heap_new1 wx _)
                        case c2 => intro u hu; simp [snapCells] at hu; rcases hu with rfl | rfl | rfl | rfl <;> rfl
                        case c3 => unfold maxLen; omega
                        case c4 => omega
                        case c5 => first | omega | (simp; omega)
                        intro v' w5 hown' hupd hnew
                        have hU : Upd (fun b => u17.ownBlock = some b) wx w5 := (Upd.same (below_alloc wx _)).trans hupd
                        have hB5 : Below wf.heap.size wf w5 := hB1.trans (hU.below hB1.size (fun b hb e => by have := HLT.out _ e; omega))
                        have hmap5 := hmap1.kept hU.grownRow (fun e => by have := HLT.out _ e.symm; omega)
                        have b0 := hU.cell a0 (fun e => by have := HLT.out q21 e; omega)
                        have b1 := hU.cell a1 (fun e => by have := HLT.out q21 e; omega)
                        have b2 := hU.cell a2 (fun e => by have := HLT.out q21 e; omega)
                        have b3 := hU.cell a3 (fun e => by have := HLT.out q21 e; omega)
                        have hs5 := hU.size
                        have hT := table_seen (HBK.out.same hB5) (HR.out.l.same hB5) ((HR.out.same hB5).live y _ HZ.out).1 name
                        unfold Snp.val at hT
                        have HT := Lib.hid hT
                        clear hU hupd hmap1 hB1 a0 a1 a2 a3 hown1 hH21 hT hnew
                        go_upto_region 29 with (go_at_call 54; (with_reducible refine HT.out.mono ?_); rintro e w6 ⟨⟨nm2, ca2, ln2, cc2, xn, xx, ok2, rfl⟩, hB56⟩)
                        have hsb := seenT_bounds (L := L) (s := t) (name := name) hids HBK.out.lo
                        have hnb := visI_le (L := L) (s := t) (n := seenT L t name T) (I := I)
                        have hib := HBK.out.ilen
                        have hlb := HBK.out.hi
                        have hsn : seenN L t name T I = seenT L t name T + 1000 * ((visI 1 L t (seenT L t name T) I).length : Int) := rfl
                        obtain ⟨id, hid⟩ : ∃ id, id = seenT L t name T := ⟨_, rfl⟩
                        rw [← hid] at hsb hnb hsn ⊢
                        have hI : ∀ w', Below w5.heap.size w5 w' → Calls Try.prog 55 #[.pointer (some ⟨p, 0, none⟩), .pointer (some ⟨pl, 0, none⟩), .agg #[.int .u64 t.own, .int .u64 t.xmin, .int .u64 t.xmax, .slice ra2 t.run.length rc2], .int .u64 id] w' fun r w'' => (∃ a cap, r = .returned (.slice a (visI 1 L t id I).length cap)) ∧ Below w'.heap.size w' w'' := fun w' hb =>
                          indexes_seen ((HBK.out.same hB5).same hb) ((HR.out.l.same hB5).same hb) (((HR.out.same hB5).live y _ HZ.out).1.same hb) id
                        obtain ⟨nI, hnI⟩ : ∃ nI, nI = (visI 1 L t id I).length := ⟨_, rfl⟩
                        rw [← hnI] at hnb hsn
                        simp only [← hnI] at hI
                        have HI := Lib.hid hI
                        have HSN := Lib.hid hsn
                        clear hid hnI HT hI hsn
                        have hH23 := heap_new1 w6 (.cells #[.int .u64 id, .string nm2, .slice ca2 ln2 cc2, .int .u64 xn, .int .u64 xx] 111)
                        have hB57 : Below w5.heap.size w5 (w6.alloc (.cells #[.int .u64 id, .string nm2, .slice ca2 ln2 cc2, .int .u64 xn, .int .u64 xx] 111)) := hB56.alloc hB56.size _
                        obtain ⟨w7, hw7⟩ : ∃ w7, w7 = w6.alloc (.cells #[.int .u64 id, .string nm2, .slice ca2 ln2 cc2, .int .u64 xn, .int .u64 xx] 111) := ⟨_, rfl⟩
                        obtain ⟨q23, hq23⟩ : ∃ q23, q23 = w6.heap.size := ⟨_, rfl⟩
                        rw [← hw7] at hH23 hB57 ⊢
                        rw [← hq23] at hH23 ⊢
                        have hq23b : wf.heap.size < q23 := by have := hB56.size; omega
                        have e0 := cell_of_block hH23 (i := 0) rfl
                        have d0 := keeper hB57 b0
                        have d1 := keeper hB57 b1
                        have d2 := keeper hB57 b2
                        have d3 := keeper hB57 b3
                        have hmap7 := hmap5.kept (below_grown hB57) (by simp)
                        have hown7 := ownsRow_upd (S := fun _ => False) hown' (Upd.same hB57) (fun _ _ x => x)
                        have hB7 := hB5.trans (hB57.mono hB5.size)
                        have hs7 : wf.heap.size < w7.heap.size := by have := hB57.size; omega
                        have HOWN := Lib.hid hown7
                        have hwy : (Lit.int .u64 y).wf = true := WalkArith.wf_u64 (by omega)
                        have hwe := told_wrap (a := id) (n := nI) hsb.1 (by omega) (by omega)
                        have HWE := Lib.hid hwe
                        clear hwe
                        have hwv : (Lit.int .u64 (id + 1000 * (nI : Int))).wf = true := WalkArith.wf_u64 (by omega)
                        clear hB56 b0 b1 b2 b3 hw7 hq23 hmap5 hown' hown7 hH23
                        have hdr : Below w7.heap.size w7 w7.drew := below_drewN (n := 1)
                        have hmapd := hmap7.kept (below_grown hdr) (by simp)
                        go_region_held3 (fun z => z.cell? ⟨q23, 0, none⟩ = some (.int .u64 id) ∧ z.cell? ⟨q21, 0, none⟩ = some (.int .u64 t.own) ∧ z.cell? ⟨q21, 1, none⟩ = some (.int .u64 t.xmin) ∧ z.cell? ⟨q21, 2, none⟩ = some (.int .u64 t.xmax) ∧ z.cell? ⟨q21, 3, none⟩ = some (.slice ra2 t.run.length rc2))
                          (first | exact ⟨u9.cell e0 (by simp only; omega), u9.cell d0 (by simp only; omega), u9.cell d1 (by simp only; omega), u9.cell d2 (by simp only; omega), u9.cell d3 (by simp only; omega)⟩ | exact ⟨keeper hX1 e0, keeper hX1 d0, keeper hX1 d1, keeper hX1 d2, keeper hX1 d3⟩ | exact ⟨keeper hdr e0, keeper hdr d0, keeper hdr d1, keeper hdr d2, keeper hdr d3⟩)
                          (first | (have _h := hdr; go_at_call 55; (with_reducible refine (HI.out _ (hB57.trans (hdr.mono hB57.size))).mono ?_); rintro e w8 ⟨⟨ea, ec, rfl⟩, hk8⟩; have hX1 := hdr.trans (hk8.mono hdr.size); have hmap8 := hmap7.kept (below_grown hX1) (by simp); obtain ⟨w9, hmu, hmap9, hg9⟩ := hmap8.update (Go.Maps.int_keyed Try.underlying23) Try.underlying120 (by unfold maxLen; omega) (Go.Maps.keyOf_int_mk Try.underlying23 hwy) (val := .int .u64 (IntKind.u64.wrap (id + IntKind.u64.wrap (1000 * IntKind.u64.wrap (nI : Int))))) (d := .lit (.int .u64 (id + 1000 * (nI : Int)))) (ps := []) (by rw [HWE.out]; exact plainElem_int Try.underlying23 hwv); have u9 := (Upd.same (S := fun b => b = wf.heap.size) hX1).trans (grown_upd hg9)))
                        go_wp2_with fail
                        go_roundw
                        case rel =>
                          have hown9 := ownsRow_upd HOWN.out u9 (fun b hb e => by have := World.ownsRow.lt HOWN.out b hb; omega)
                          have hw9 := HW2.out
                          rw [HSN.out] at hw9
                          exact ⟨k + 1, _, by omega, by go_num, by rw [HAT.out, List.length_append, List.flatMap_append]; simpa using hown9, hmap9, by rw [HTK.out]; exact hw9, hB7.trans (u9.below hB7.size (fun b hb e => by omega)), by have := u9.size; omega⟩
                        case measure => simp [intOf]; omega
                    · as_aux_lemma =>
                      have hke : k = O.length := by omega
                      subst hke
                      rw [List.take_length] at hown hwas
                      have hP := HR.out.same hB
                      have hal := allOf_le lv O
                      have hsn : Snaps (fun _ => 0) 0 wr u17 (allOf lv O) := ⟨ownsRow_base hown (Nat.zero_le _), fun _ _ => rfl, fun z hz => by
                        obtain ⟨y, _, hq⟩ := List.mem_filterMap.1 hz
                        exact ⟨(hP.live _ _ hq).1, fun _ _ => rfl⟩, by omega⟩
                      have hll : LogAt (fun _ => 0) 0 wr pl 1 L := by
                        obtain ⟨h1', h2, h3, h4, v, h5, h6, h7⟩ := hP.l
                        exact ⟨h1', h2, h3, rfl, v, h5, h6, fun g hg => ⟨rfl, (h7 g hg).2⟩⟩
                      clear hown
                      go_wp2_with fail
                      refine (horizon_at hll hsn).mono ?_
                      rintro e wh ⟨rfl, hBh⟩
                      obtain ⟨hz, hhz⟩ : ∃ hz, hz = least (1 + (L.length : Int)) ((allOf lv O).map (·.1.xmin)) := ⟨_, rfl⟩
                      rw [← hhz]
                      have hBwh := hB.trans (hBh.mono hB.size)
                      have hPh := HR.out.same hBwh
                      have hmaph := hmap.kept (below_grown hBh) (by simp)
                      have hszh : wf.heap.size < wh.heap.size := by have := hBh.size; omega
                      clear hll hsn hP hmap hB hal hBh hsz
                      go_wp2_with fail
                      rw [← hhz]
                      refine (prune_at (HBK.out.same hBwh) hPh.l (by decide) hz).mono ?_
                      rintro e wp ⟨er, tv2, iv2, rfl, hbp, hup⟩
                      have hPp := hPh.book (n' := n) ⟨tv2, iv2, _, _, last, hbp, hids.filter _, hlast⟩ hup
                      have hmapp := ownsMap_upd hmaph hup (by rw [hc7]; decide)
                      have hseen : ∀ x z, x ∈ O → lv x = some z → seenN L z.1 name (T.filter fun t => !deadT 1 L hz t) (I.filter fun y => !deadI 1 L hz T y) = seenN L z.1 name T I := fun x z hx hl => prune_seen hV hids name hhz hx hl
                      have hids2 := hids.filter (fun t => !deadT 1 L hz t)
                      have hil2 : (I.filter fun y => !deadI 1 L hz T y).length ≤ I.length := List.length_filter_le _ _
                      obtain ⟨T2, hT2⟩ : ∃ T2, T2 = T.filter (fun t => !deadT 1 L hz t) := ⟨_, rfl⟩
                      obtain ⟨I2, hI2⟩ : ∃ I2, I2 = I.filter (fun y => !deadI 1 L hz T y) := ⟨_, rfl⟩
                      rw [← hT2] at hids2
                      rw [← hI2] at hil2
                      simp only [← hT2, ← hI2] at hseen hbp
                      have HSN := Lib.hid hseen
                      have HWAS := Lib.hid hwas
                      have HPP := Lib.hid hPp
                      have HBP := Lib.hid hbp
                      have hszp : wf.heap.size < wp.heap.size := by have := hup.size; omega
                      clear hseen hwas hPp hbp hT2 hI2 hhz hPh hmaph hup hBwh
                      go_wp2_with (at_range; refine wpList_range_own _ rfl _ 120 rfl 23 23 (Go.Maps.int_keyed Try.underlying23) Try.underlying120 _ wf.heap.size _ _ rfl hmapp ?_; intro w0 hrg0 hg0 hs0)
                      go_frame
                      obtain ⟨r, hr⟩ : ∃ r, r = wp.heap.size := ⟨_, rfl⟩
                      have hB0 := below_of_grown (B := wp.heap.size) hg0 (Nat.le_refl _) (by simp)
                      rw [← hr] at hrg0 ⊢
                      have hrle : wp.heap.size ≤ r := by omega
                      clear hmapp hg0 hs0 hr
                      go_loopw [] (fun wr => ∃ (left : Lit → Bool) (cnt : Nat), wr.ranges Try.prog 23 (plainElem Try.prog 23) wf.heap.size r O.length D left cnt ∧ Below wp.heap.size wp wr) (fun wr => wr.rangeLeft wf.heap.size r)
                      case atStart => exact ⟨_, _, hrg0, hB0⟩
                      case round =>
                        as_aux_lemma =>
                        clear hrg0 hB0
                        obtain ⟨left, cnt, hrg, hBr⟩ := hrel
                        go_wp2_with (at_next; refine wpList_next_ranges_ii _ rfl _ rfl 23 23 .u64 .u64 (Go.Maps.int_keyed Try.underlying23) Try.underlying23 Try.underlying23 wf.heap.size r O.length _ _ _ rfl hrg ?_ ?_)
                        · intro _ _
                          have hF := HPP.out.same hBr
                          go_wp2_with fail
                          go_meet
                          exact ⟨L, lv, m, O, n, c2, hF, hV, by omega, by omega, hn0, by omega⟩
                        · intro y cc wn cnt1 hwy hwc hly hat hrg1 hlt hg1 hs1 hen
                          obtain ⟨hyO, z, hz, hcc⟩ := HWAS.out.2 y cc hat
                          have hBn : Below wp.heap.size wp wn := hBr.trans (below_of_grown hg1 hBr.size (fun j e => by cases e; omega))
                          have hF := HPP.out.same hBn
                          have hzr := (hF.live _ _ hz).1
                          have hse := HSN.out y z hyO hz
                          obtain ⟨t, rv2⟩ := z
                          obtain ⟨ra2, rc2, hrv2⟩ := ownsRow_slice hzr.1
                          simp only at hrv2
                          subst hrv2
                          have hLK : ∀ w', Below wn.heap.size wn w' → (Instr.lookup 81 (.map (some ub)) (.int .u64 y) false).run Try.prog w' = .ok (.agg #[.int .u64 t.own, .int .u64 t.xmin, .int .u64 t.xmax, .slice ra2 t.run.length rc2]) w' := fun w' hb => by
                            have hlk := run_lookup_map (hF.same hb).mp key23 Try.underlying81 (zero66 w') y false
                            rw [hF.get, hz] at hlk
                            exact hlk
                          have hlk2 := hLK wn (Below.refl _ _)
                          have hT := table_seen (HBP.out.same hBn) hF.l hzr name
                          unfold Snp.val at hT
                          have HT := Lib.hid hT
                          have HLK := Lib.hid hLK
                          have HCE := Lib.hid (show cc = seenN L t name T2 I2 from hcc.trans hse.symm)
                          have HZ := Lib.hid hz
                          clear hT hLK hcc hse hz hF hzr hat hBr hg1 hs1
                          go_upto_region 36 with (go_at_call 54; (with_reducible refine HT.out.mono ?_); rintro e w6 ⟨⟨nm2, ca2, ln2, cc2, xn, xx, ok2, rfl⟩, hB56⟩)
                          have hsb := seenT_bounds (L := L) (s := t) (name := name) hids2 HBK.out.lo
                          have hnb := visI_le (L := L) (s := t) (n := seenT L t name T2) (I := I2)
                          have hib := HBK.out.ilen
                          have hlb := HBK.out.hi
                          have hsn : seenN L t name T2 I2 = seenT L t name T2 + 1000 * ((visI 1 L t (seenT L t name T2) I2).length : Int) := rfl
                          obtain ⟨id, hid⟩ : ∃ id, id = seenT L t name T2 := ⟨_, rfl⟩
                          rw [← hid] at hsb hnb hsn ⊢
                          have hI : ∀ w', Below wn.heap.size wn w' → Calls Try.prog 55 #[.pointer (some ⟨p, 0, none⟩), .pointer (some ⟨pl, 0, none⟩), .agg #[.int .u64 t.own, .int .u64 t.xmin, .int .u64 t.xmax, .slice ra2 t.run.length rc2], .int .u64 id] w' fun r w'' => (∃ a cap, r = .returned (.slice a (visI 1 L t id I2).length cap)) ∧ Below w'.heap.size w' w'' := fun w' hb =>
                            indexes_seen ((HBP.out.same hBn).same hb) ((HPP.out.l.same hBn).same hb) (((HPP.out.same hBn).live y _ HZ.out).1.same hb) id
                          obtain ⟨nI, hnI⟩ : ∃ nI, nI = (visI 1 L t id I2).length := ⟨_, rfl⟩
                          rw [← hnI] at hnb hsn
                          simp only [← hnI] at hI
                          have HI := Lib.hid hI
                          have hce := HCE.out
                          rw [hsn] at hce
                          have hwe := told_wrap (a := id) (n := nI) hsb.1 (by omega) (by omega)
                          rw [← hce] at hwe
                          have hH27 := heap_new1 w6 (.cells #[.int .u64 id, .string nm2, .slice ca2 ln2 cc2, .int .u64 xn, .int .u64 xx] 111)
                          have hBn7 : Below wn.heap.size wn (w6.alloc (.cells #[.int .u64 id, .string nm2, .slice ca2 ln2 cc2, .int .u64 xn, .int .u64 xx] 111)) := hB56.alloc hB56.size _
                          obtain ⟨w7, hw7⟩ : ∃ w7, w7 = w6.alloc (.cells #[.int .u64 id, .string nm2, .slice ca2 ln2 cc2, .int .u64 xn, .int .u64 xx] 111) := ⟨_, rfl⟩
                          obtain ⟨q27, hq27⟩ : ∃ q27, q27 = w6.heap.size := ⟨_, rfl⟩
                          rw [← hw7] at hH27 hBn7 ⊢
                          rw [← hq27] at hH27 ⊢
                          have e0 := cell_of_block hH27 (i := 0) rfl
                          have hdr : Below w7.heap.size w7 w7.drew := below_drewN (n := 1)
                          have hLK7 := HLK.out _ (hBn7.trans (hdr.mono hBn7.size))
                          clear hB56 hw7 hq27 hH27 hid hnI HT hI hsn hlk2 hen hsb hnb hib hlb hce HCE
                          go_region_held3 (fun z => z.cell? ⟨q27, 0, none⟩ = some (.int .u64 id) ∧ (Instr.lookup 81 (.map (some ub)) (.int .u64 y) false).run Try.prog z = .ok (.agg #[.int .u64 t.own, .int .u64 t.xmin, .int .u64 t.xmax, .slice ra2 t.run.length rc2]) z)
                            (first | exact ⟨keeper hX1 e0, HLK.out _ hX2⟩ | exact ⟨keeper hdr e0, hLK7⟩)
                            (first | (have _h := hdr; go_at_call 55; (with_reducible refine (HI.out _ (hBn7.trans (hdr.mono hBn7.size))).mono ?_); rintro e w8 ⟨⟨ea, ec, rfl⟩, hk8⟩; have hX1 := hdr.trans (hk8.mono hdr.size); have hX2 := hBn7.trans (hX1.mono hBn7.size)))
                          have hrg8 := hrg1.kept (below_grown hX2) (by simp) (by simp)
                          have hB8 := hBn.trans (hX2.mono hBn.size)
                          clear hrg1 HLK HI
                          go_wp2_with fail
                          go_roundw
                          case rel => exact ⟨_, cnt1, hrg8, hB8⟩
                          case measure => rw [hrg8.left_eq, hrg.left_eq]; exact hlt
        case rest =>
          obtain ⟨L, lv, m, O, n, c, hR, hV, hL, hO, hn0, hn1⟩ := hcut
          go_wp2_with fail
          go_roundw
          case rel => exact ⟨j + 1, L, lv, m, O, n, c, by omega, by go_num, hR, hV, hL, hO, by omega, hn0, by omega⟩
          case measure => simp [intOf]; omega
    · have hjn : j = n1 := by omega
      subst hjn
      have HE := Lib.hid hBw
      clear hBw
      go_wp2_with fail
      go_ret
      exact ⟨rfl, HE.out⟩
end Go.Proofs.Ytdohkjpapmkhjaa
