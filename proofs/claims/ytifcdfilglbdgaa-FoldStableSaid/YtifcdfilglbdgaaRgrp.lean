/-
  lapidaryref19.Groups: the document's groups are the program's.
-/
import Derived.Test.YtifcdfilglbdgaaGroups
import Derived.Deep.CutRange
import Derived.Deep.CutBlock
namespace Go.Proofs.Ytifcdfilglbdgaa
open Go.RowKit

/-- The keys by their numbers. -/
theorem KeysAt.nth {w : World} {ka : Option Addr} {n kc : Nat} {R : List (List V)} (hK : KeysAt w (.slice ka n kc) R) : ∃ (kb ko : Nat) (rvf : Nat → Value), ∀ i (h : i < R.length), ka = some ⟨kb, ko, none⟩ ∧ w.cell? ⟨kb, ko + i, none⟩ = some (rvf i) ∧ RowAt w (rvf i) R[i] := by
  obtain ⟨a, c, e, _, h⟩ := hK
  simp only [Value.slice.injEq] at e
  obtain ⟨rfl, _, _⟩ := e
  by_cases h0 : R.length = 0
  · exact ⟨0, 0, fun _ => .bool false, fun i hi => by omega⟩
  · obtain ⟨b, off, _, e2, _⟩ := h 0 (by omega)
    refine ⟨b, off, fun i => (w.cell? ⟨b, off + i, none⟩).getD (.bool false), fun i hi => ?_⟩
    obtain ⟨b', off', rv, e3, c1, c2⟩ := h i hi
    rw [e2] at e3
    simp only [Option.some.injEq, Addr.mk.injEq] at e3
    obtain ⟨rfl, rfl, _⟩ := e3
    refine ⟨e2, ?_⟩
    have e4 : (w.cell? ⟨b, off + i, none⟩).getD (.bool false) = rv := by rw [c1]; rfl
    show w.cell? ⟨b, off + i, none⟩ = some ((w.cell? ⟨b, off + i, none⟩).getD (.bool false)) ∧ RowAt w ((w.cell? ⟨b, off + i, none⟩).getD (.bool false)) R[i]
    rw [e4]
    exact ⟨c1, c2⟩

theorem isFirst_step {α : Type} [DecidableEq α] (f : Nat → α) (i k : Nat) : (!(List.range (k + 1)).any fun x => decide (f x = f i)) = ((!(List.range k).any fun x => decide (f x = f i)) && !decide (f k = f i)) := by
  rw [List.range_succ, List.any_append]; simp

set_option maxHeartbeats 4000000 in
set_option maxRecDepth 100000 in
/-- lapidaryref19.Groups. -/
theorem refGroups_at {w : World} {kv : Value} {R : List (List V)} (hk : KeysAt w kv R) :
    Calls Try.prog 12 #[kv] w fun r w' => ∃ v vals, r = .returned v ∧ GrpRow w.heap.size w' v vals (grps (kf R) R.length) ∧ Below w.heap.size w w' := by
  obtain ⟨i3, hi3, hz30, hz31, hz32⟩ := info_parts Try.info3
  obtain ⟨i28, hi28, hz280, hz281, hz282⟩ := info_parts Try.info28
  obtain ⟨ka, kc, hkv⟩ : ∃ a c, kv = .slice a R.length c := by obtain ⟨a, c, e, _⟩ := hk; exact ⟨a, c, e⟩
  have hkl : R.length ≤ 1000 := by obtain ⟨a, c, e, h, _⟩ := hk; exact h
  subst hkv
  obtain ⟨kb, ko, rvf, hcell⟩ := hk.nth
  have hsame : ∀ w', Below w.heap.size w w' → ∀ i j (hi : i < R.length) (hj : j < R.length), Calls Try.prog 26 #[rvf i, rvf j] w' fun e w'' => e = .returned (.bool (decide (kf R i = kf R j))) ∧ Below w'.heap.size w' w'' := fun w' hb i j hi hj => by
    have h := refSame_at ((hcell i hi).2.2.same hb) ((hcell j hj).2.2.same hb)
    rw [← sameR_kf, show R.getD i [] = R[i] from by simp [hi], show R.getD j [] = R[j] from by simp [hj]]
    exact h
  have HSAME := Lib.hid hsame
  have HCELL := Lib.hid (fun i (hi : i < R.length) => (⟨(hcell i hi).1, (hcell i hi).2.1⟩ : ka = some ⟨kb, ko, none⟩ ∧ w.cell? ⟨kb, ko + i, none⟩ = some (rvf i)))
  obtain ⟨f, hf⟩ : ∃ f, f = kf R := ⟨_, rfl⟩
  obtain ⟨n, hn⟩ : ∃ n, n = R.length := ⟨_, rfl⟩
  rw [← hf] at HSAME ⊢
  rw [← hn] at HSAME HCELL hkl ⊢
  clear hf hn hsame hcell hk
  go_enter Try.func12, Try.ntmps12
  go_wp2_with fail
  go_loopw [3, 11] (fun v iv wr => ∃ (i : Nat) (vals : List Value), i ≤ n ∧ iv = .int .i64 i ∧ GrpRow w.heap.size wr v vals ((firsts f i).map (grpOf f n)) ∧ Below w.heap.size w wr) (fun _ iv _ => n - (intOf iv).toNat)
  case atStart => exact ⟨0, [], Nat.zero_le _, rfl, GrpRow.nil _ _, Below.refl _ _⟩
  case round =>
    obtain ⟨i, vals, hi, rfl, hG, hB⟩ := hrel
    have hz := hB.size
    by_cases hlt : i < n
    · have hi0 : (0 : Int) ≤ (i : Int) := by omega
      have hi1 : (i : Int) < (n : Int) := by omega
      obtain ⟨hka, ci0⟩ := HCELL.out i hlt
      subst hka
      go_wp2_with fail
      obtain ⟨wo, hwo⟩ : ∃ wo, wo = wr := ⟨_, rfl⟩
      subst hwo
      go_loopw [5, 15] (fun fv kv wr => ∃ (k : Nat) (b : Bool), k ≤ i ∧ kv = .int .i64 k ∧ fv = .bool b ∧ Hid (b = !(List.range k).any fun x => decide (f x = f i)) ∧ Below wo.heap.size wo wr) (fun _ kv _ => i - (intOf kv).toNat)
      case atStart => exact ⟨0, true, Nat.zero_le _, rfl, rfl, rfl, Below.refl _ _⟩
      case round =>
        obtain ⟨k, b, hk, rfl, rfl, HF, hQ⟩ := hrel
        have hBq := below_then hB hQ
        by_cases hk2 : k < i
        · have hk0 : (0 : Int) ≤ (k : Int) := by omega
          have hk1 : (k : Int) < (n : Int) := by omega
          have hki : (k : Int) < (i : Int) := by omega
          have hst := isFirst_step f i k
          rw [← HF.out] at hst
          have HST := Lib.hid hst
          clear hst
          cases b with
          | false =>
            go_wp2_with fail
            go_quiet (fail)
            go_wp2_with fail
            go_roundw
            case rel => exact ⟨k + 1, false, by omega, by go_num, rfl, Lib.hid (HST.out.symm : false = _), hQ.trans below_drewN⟩
            case measure => simp [intOf]; omega
          | true =>
            obtain ⟨_, ck0⟩ := HCELL.out k (by omega)
            have ci := keeper hBq ci0
            have ck := keeper hBq ck0
            have hcl := fun w' hb => HSAME.out w' hb k i (by omega) hlt
            obtain ⟨y, hy⟩ : ∃ y, y = decide (f k = f i) := ⟨_, rfl⟩
            rw [← hy] at hcl HST
            have HCL := Lib.hid hcl
            have hd0 : Below wr.heap.size wr wr.drew := below_drewN (n := 1)
            have hB0 := below_then hBq hd0
            clear hcl hy ck0
            go_wp2_with fail
            go_region_held3 (fun z => z.cell? ⟨kb, ko + k, none⟩ = some (rvf k) ∧ z.cell? ⟨kb, ko + i, none⟩ = some (rvf i))
              (first | (with_reducible exact ⟨keeper hd1 ck, keeper hd1 ci⟩) | (with_reducible exact ⟨keeper hd0 ck, keeper hd0 ci⟩))
              (first | (go_at_call 26; (with_reducible refine (HCL.out _ hB0).mono ?_); rintro e w5 ⟨rfl, hk5⟩; have hd1 := below_then hd0 hk5))
            go_wp2_with fail
            go_roundw
            case rel => exact ⟨k + 1, !y, by omega, by go_num, by simp, Lib.hid (by rw [HST.out]; simp), hQ.trans (hd1.mono hQ.size)⟩
            case measure => simp [intOf]; omega
        · have hki : k = i := by omega
          subst hki
          have hkk : ¬ (k : Int) < (k : Int) := by omega
          have hfi : isFirst f k = b := HF.out.symm
          have HFI := Lib.hid hfi
          clear hfi HF
          cases b with
          | false =>
            have hfs : (firsts f (k + 1)).map (grpOf f n) = (firsts f k).map (grpOf f n) := by rw [firsts_succ, if_neg (by rw [HFI.out]; decide)]
            have HFS := Lib.hid hfs
            clear hfs
            go_wp2_with fail
            go_roundw
            case rel => exact ⟨k + 1, vals, by omega, by go_num, by rw [HFS.out]; exact hG.same hQ, hBq⟩
            case measure => simp [intOf]; omega
          | true =>
            have hfs : (firsts f (k + 1)).map (grpOf f n) = (firsts f k).map (grpOf f n) ++ [grpOf f n k] := by rw [firsts_succ, if_pos HFI.out, List.map_append]; rfl
            have hg0 : grpOf f k k = [] := by
              unfold grpOf
              rw [List.filter_eq_nil_iff]
              intro x hx
              simpa using isFirst_iff.1 HFI.out x (List.mem_range.1 hx)
            have HFS := Lib.hid hfs; have HG0 := Lib.hid hg0
            clear hfs hg0
            have hG1 := hG.same hQ
            have HG1 := Lib.hid hG1
            clear hG1 hG
            go_wp2_with fail
            obtain ⟨wp, hwp⟩ : ∃ wp, wp = wr := ⟨_, rfl⟩
            subst hwp
            go_loopw [7, 8] (fun lv jv wr => ∃ j : Nat, k ≤ j ∧ j ≤ n ∧ jv = .int .i64 j ∧ wr.ownsRow wp.heap.size 3 1 lv (grpOf f j k).length (natsV (grpOf f j k)) ∧ Below wp.heap.size wp wr) (fun _ jv _ => n - (intOf jv).toNat)
            case atStart => exact ⟨k, Nat.le_refl _, by omega, rfl, by rw [HG0.out]; exact World.ownsRow_nil _ _ _ _, Below.refl _ _⟩
            case round =>
              obtain ⟨j, hkj, hj, rfl, hl, hP⟩ := hrel
              have hBp := below_then hBq hP
              have hln : ∀ b, u7.ownBlock = some b → wp.heap.size ≤ b := fun b hb => (World.ownsRow.lt hl b hb).1
              have HLN := Lib.hid hln; clear hln
              by_cases hj2 : j < n
              · have hj0 : (0 : Int) ≤ (j : Int) := by omega
                have hj1 : (j : Int) < (n : Int) := by omega
                obtain ⟨_, cj0⟩ := HCELL.out j hj2
                have ci := keeper hBp ci0
                have cj := keeper hBp cj0
                have hcl := fun w' hb => HSAME.out w' hb j k hj2 hlt
                have hst := grpOf_succ (f := f) j k
                obtain ⟨y, hy⟩ : ∃ y, y = decide (f j = f k) := ⟨_, rfl⟩
                rw [← hy] at hcl
                have HCL := Lib.hid hcl; have HST := Lib.hid hst; have HY := Lib.hid hy
                have hd0 : Below wr.heap.size wr wr.drew := below_drewN (n := 1)
                have hB0 := below_then hBp hd0
                have hll : (grpOf f j k).length ≤ 1000 := by unfold grpOf; exact Nat.le_trans (List.length_filter_le _ _) (by simp; omega)
                clear hcl hy hst cj0
                go_wp2_with fail
                go_region_held3 (fun z => z.cell? ⟨kb, ko + j, none⟩ = some (rvf j) ∧ z.cell? ⟨kb, ko + k, none⟩ = some (rvf k))
                  (first | (with_reducible exact ⟨keeper hd1 cj, keeper hd1 ci⟩) | (with_reducible exact ⟨keeper hd0 cj, keeper hd0 ci⟩))
                  (first | (go_at_call 26; (with_reducible refine (HCL.out _ hB0).mono ?_); rintro e w5 ⟨rfl, hk5⟩; have hd1 := below_then hd0 hk5))
                have hP1 := hP.trans (hd1.mono hP.size)
                have hl1 := row_same hl hd1
                cases y with
                | false =>
                  have hst2 : grpOf f (j + 1) k = grpOf f j k := by rw [HST.out, if_neg]; exact of_decide_eq_false HY.out.symm
                  have HS2 := Lib.hid hst2
                  clear hst2
                  go_wp2_with fail
                  go_roundw
                  case rel => exact ⟨j + 1, by omega, by omega, by go_num, by rw [HS2.out]; exact hl1, hP1⟩
                  case measure => simp [intOf]; omega
                | true =>
                  have hst2 : grpOf f (j + 1) k = grpOf f j k ++ [j] := by rw [HST.out, if_pos]; exact of_decide_eq_true HY.out.symm
                  have HS2 := Lib.hid hst2
                  obtain ⟨lj, hlj⟩ : ∃ lj, lj = grpOf f j k := ⟨_, rfl⟩
                  rw [← hlj] at hl1 hll HS2
                  have HL1 := Lib.hid (World.ownsRow.alloc hl1 (.cells #[.int .i64 (j : Int)] 3))
                  clear hst2 hlj hl hl1
                  go_wp2_with (at_builtin; refine wpList_append_mine rfl (.tmp 50) (.tmp 52) 28 rfl wp.heap.size 3 i3 (.int .i64 0) 1 8 Try.underlying28 hi3 hz30 hz31 hz32 rfl (by decide) u7 lj.length (natsV lj) rfl HL1.out ⟨w5.heap.size, 0, none⟩ 1 1 [.int .i64 (j : Int)] rfl rfl ?c1 ?c2 ?c3 ?c4 ?c5 ?_)
                  case c1 => first | exact fun j u h => h | exact cell_one_new _ _ _
                  case c2 => intro u hu; simp at hu; subst hu; rfl
                  case c3 => unfold maxLen; omega
                  case c4 => omega
                  case c5 => have := hP1.size; first | omega | (simp; omega)
                  intro v' w6 hown' hupd hnew
                  have hb6 : Below wp.heap.size wp w6 := hP1.trans (Upd.below (S := fun b => u7.ownBlock = some b) ((Upd.same (below_alloc _ _)).trans hupd) hP1.size (fun b hb e => by have := HLN.out _ e; omega))
                  clear hupd hnew
                  go_wp2_with fail
                  go_roundw
                  case rel => exact ⟨j + 1, by omega, by omega, by go_num, by rw [HS2.out, natsV_snoc, List.length_append]; exact hown', hb6⟩
                  case measure => simp [intOf]; omega
              · have hjn : j = n := by omega
                subst hjn
                have hjj : ¬ (j : Int) < (j : Int) := by omega
                have hG2 := HG1.out.same hP
                obtain ⟨ll, hlle⟩ : ∃ ll, ll = grpOf f j k := ⟨_, rfl⟩
                rw [← hlle] at hl HFS
                obtain ⟨ua, uc, hus⟩ := ownsRow_slice hl
                subst hus
                have hlB := ownsRow_base hl hBq.size
                have hal := below_alloc wr (.cells #[.slice ua ll.length uc] 28)
                have hG3 := hG2.same hal
                have hu := row_same hlB hal
                have hnb : ∀ (m : Nat) (x : Value), vals[m]? = some x → ∀ b, x.ownBlock = some b → (Value.slice ua ll.length uc).ownBlock ≠ some b := fun m x hx b hb e => by
                  have hml : m < ((firsts f k).map (grpOf f j)).length := by have := (List.getElem?_eq_some_iff.1 hx).1; have := hG2.len; omega
                  have h1 := (World.ownsRow.lt (HG1.out.each m hml x hx) b hb).2
                  have h2 := HLN.out b e
                  omega
                have hwn : ∀ b, u3.ownBlock = some b → w.heap.size ≤ b := fun b hb => (World.ownsRow.lt hG2.row b hb).1
                have hgl : ((firsts f k).map (grpOf f j)).length ≤ 1000 := by
                  rw [List.length_map]; unfold firsts
                  exact Nat.le_trans (List.length_filter_le _ _) (by simp; omega)
                obtain ⟨G0, hG0e⟩ : ∃ G0, G0 = (firsts f k).map (grpOf f j) := ⟨_, rfl⟩
                rw [← hG0e] at hG3 hgl HFS
                have HG3 := Lib.hid hG3; have HU := Lib.hid hu; have HNB := Lib.hid hnb; have HWN := Lib.hid hwn; have HBP := Lib.hid hBp
                have HROW3 := Lib.hid hG3.row
                clear hG3 hu hnb hwn hG2 hlB hl hG0e hlle
                go_wp2_with (at_builtin; refine wpList_append_mine rfl (.tmp 54) (.tmp 56) 25 rfl w.heap.size 28 i28 (.slice none 0 0) 1 24 Try.underlying25 hi28 hz280 hz281 hz282 rfl (by decide) u3 G0.length vals rfl HROW3.out ⟨wr.heap.size, 0, none⟩ 1 1 [.slice ua ll.length uc] rfl rfl ?d1 ?d2 ?d3 ?d4 ?d5 ?_)
                case d2 => rfl
                case d3 => unfold maxLen; omega
                case d4 => omega
                case d5 => have := HBP.out.size; first | omega | (simp; omega)
                intro v' w6 hown' hupd hnew
                have hpush := HG3.out.push HU.out HNB.out hown' hupd
                have hb6 : Below w.heap.size w w6 := HBP.out.trans (Upd.below (S := fun b => u3.ownBlock = some b) ((Upd.same hal).trans hupd) HBP.out.size (fun b hb e => by have := HWN.out _ e; omega))
                have HPU := Lib.hid hpush
                clear hpush hupd hnew hown'
                go_wp2_with fail
                go_roundw
                case rel => exact ⟨k + 1, _, by omega, by go_num, by rw [HFS.out]; exact HPU.out, hb6⟩
                case measure => simp [intOf]; omega
    · have hin : i = n := by omega
      subst hin
      go_wp2_with fail
      go_ret
      exact ⟨_, vals, rfl, hG, hB⟩
end Go.Proofs.Ytifcdfilglbdgaa
