/-
  lapidaryref02.Right: of any value it is told one and the same.
-/
import Derived.Test.YtifcdfilglbdgaaValid
namespace Go.Proofs.Ytifcdfilglbdgaa
open Go.RowKit
def rightB (v : V) : Bool :=
  if v.k = 0 then decide (v.i = 0) && (v.s.toList.isEmpty && !v.b) else if v.k = 1 then v.s.toList.isEmpty && !v.b else
  if v.k = 2 then decide (v.i = 0) && (!v.b && (decide (v.s.size ≤ 60) && validB v.s)) else if v.k = 3 then decide (v.i = 0) && v.s.toList.isEmpty else false

set_option maxHeartbeats 4000000 in
set_option maxRecDepth 100000 in
theorem right_at (v : V) (hs : v.s.size ≤ 9223372036854775807) (w : World) : Calls Try.prog 22 #[v.val] w fun r w' => r = .returned (.bool (rightB v)) ∧ Below w.heap.size w w' := by
  obtain ⟨k, i, s, b⟩ := v
  unfold V.val
  simp only at hs ⊢
  have hal : Below w.heap.size w (w.alloc (.cells #[.int .u8 k, .int .i64 i, .string s, .bool b] 39)) := below_alloc _ _
  obtain ⟨R, hR⟩ : ∃ R, R = rightB ⟨k, i, s, b⟩ := ⟨_, rfl⟩
  rw [← hR]
  unfold rightB at hR
  simp only at hR
  have HR := Lib.hid hR
  clear hR
  by_cases hi : i = 0
  · subst hi
    by_cases hs0 : s.toList = []
    · have hs2 : s.toList.isEmpty = true := by rw [hs0]; rfl
      cases b with
      | true =>
        by_cases h0 : k = 0
        · subst h0
          have hv : R = false := by rw [HR.out]; simp [hs0]
          have HV := Lib.hid hv
          clear hv HR
          go_enter Try.func22, Try.ntmps22
          go_wp2_with fail
          go_quiet (fail)
          go_wp2_with fail
          go_ret
          exact ⟨ret_bool HV.out.symm, hal.trans below_drewN⟩
        have e0 : (k == 0) = false := by rw [beq_eq_false_iff_ne]; exact h0
        by_cases h1 : k = 1
        · subst h1
          have hv : R = false := by rw [HR.out]; simp [hs0]
          have HV := Lib.hid hv
          clear hv HR
          go_enter Try.func22, Try.ntmps22
          go_wp2_with fail
          go_quiet (fail)
          go_wp2_with fail
          go_ret
          exact ⟨ret_bool HV.out.symm, hal.trans below_drewN⟩
        have e1 : (k == 1) = false := by rw [beq_eq_false_iff_ne]; exact h1
        by_cases h2 : k = 2
        · subst h2
          have hv : R = false := by rw [HR.out]; simp
          have HV := Lib.hid hv
          clear hv HR
          go_enter Try.func22, Try.ntmps22
          go_wp2_with fail
          go_quiet (fail)
          go_wp2_with fail
          go_ret
          exact ⟨ret_bool HV.out.symm, hal.trans below_drewN⟩
        have e2 : (k == 2) = false := by rw [beq_eq_false_iff_ne]; exact h2
        by_cases h3 : k = 3
        · subst h3
          have hv : R = true := by rw [HR.out]; simp [hs0]
          have HV := Lib.hid hv
          clear hv HR
          go_enter Try.func22, Try.ntmps22
          go_wp2_with fail
          go_quiet (fail)
          go_wp2_with fail
          go_ret
          exact ⟨ret_bool HV.out.symm, hal.trans below_drewN⟩
        have e3 : (k == 3) = false := by rw [beq_eq_false_iff_ne]; exact h3
        have hv : R = false := by rw [HR.out]; simp [h0, h1, h2, h3]
        have HV := Lib.hid hv
        clear hv HR
        go_enter Try.func22, Try.ntmps22
        go_wp2_with fail
        go_quiet (fail)
        go_wp2_with fail
        go_ret
        exact ⟨ret_bool HV.out.symm, hal.trans below_drewN⟩
      | false =>
        by_cases h0 : k = 0
        · subst h0
          have hv : R = true := by rw [HR.out]; simp [hs0]
          have HV := Lib.hid hv
          clear hv HR
          go_enter Try.func22, Try.ntmps22
          go_wp2_with fail
          go_quiet (fail)
          go_wp2_with fail
          go_ret
          exact ⟨ret_bool HV.out.symm, hal.trans below_drewN⟩
        have e0 : (k == 0) = false := by rw [beq_eq_false_iff_ne]; exact h0
        by_cases h1 : k = 1
        · subst h1
          have hv : R = true := by rw [HR.out]; simp [hs0]
          have HV := Lib.hid hv
          clear hv HR
          go_enter Try.func22, Try.ntmps22
          go_wp2_with fail
          go_quiet (fail)
          go_wp2_with fail
          go_ret
          exact ⟨ret_bool HV.out.symm, hal.trans below_drewN⟩
        have e1 : (k == 1) = false := by rw [beq_eq_false_iff_ne]; exact h1
        by_cases h2 : k = 2
        · subst h2
          by_cases h60 : s.size ≤ 60
          · have hv : R = validB s := by rw [HR.out]; simp [h60]
            have HV := Lib.hid hv
            have hva := fun w => valid_at s h60 w
            have HVA := Lib.hid hva
            have h60' : (s.size : Int) ≤ 60 := by omega
            clear hv HR hva
            go_enter Try.func22, Try.ntmps22
            go_wp2_with fail
            go_quiet (fail)
            go_wp2_with fail
            refine (HVA.out _).mono ?_
            rintro r w1 ⟨rfl, rfl⟩
            go_wp2_with fail
            go_ret
            exact ⟨ret_bool HV.out.symm, hal.trans below_drewN⟩
          · have hv : R = false := by rw [HR.out]; simp [h60]
            have HV := Lib.hid hv
            have h60' : ¬ (s.size : Int) ≤ 60 := by omega
            clear hv HR
            go_enter Try.func22, Try.ntmps22
            go_wp2_with fail
            go_quiet (fail)
            go_wp2_with fail
            go_ret
            exact ⟨ret_bool HV.out.symm, hal.trans below_drewN⟩
        have e2 : (k == 2) = false := by rw [beq_eq_false_iff_ne]; exact h2
        by_cases h3 : k = 3
        · subst h3
          have hv : R = true := by rw [HR.out]; simp [hs0]
          have HV := Lib.hid hv
          clear hv HR
          go_enter Try.func22, Try.ntmps22
          go_wp2_with fail
          go_quiet (fail)
          go_wp2_with fail
          go_ret
          exact ⟨ret_bool HV.out.symm, hal.trans below_drewN⟩
        have e3 : (k == 3) = false := by rw [beq_eq_false_iff_ne]; exact h3
        have hv : R = false := by rw [HR.out]; simp [h0, h1, h2, h3]
        have HV := Lib.hid hv
        clear hv HR
        go_enter Try.func22, Try.ntmps22
        go_wp2_with fail
        go_quiet (fail)
        go_wp2_with fail
        go_ret
        exact ⟨ret_bool HV.out.symm, hal.trans below_drewN⟩
    · have hs1 : s.toList.isEmpty = false := by cases h : s.toList with | nil => exact absurd h hs0 | cons x r => rfl
      cases b with
      | true =>
        by_cases h0 : k = 0
        · subst h0
          have hv : R = false := by rw [HR.out]; simp [hs1]
          have HV := Lib.hid hv
          clear hv HR
          go_enter Try.func22, Try.ntmps22
          go_wp2_with fail
          go_quiet (fail)
          go_wp2_with fail
          go_ret
          exact ⟨ret_bool HV.out.symm, hal.trans below_drewN⟩
        have e0 : (k == 0) = false := by rw [beq_eq_false_iff_ne]; exact h0
        by_cases h1 : k = 1
        · subst h1
          have hv : R = false := by rw [HR.out]; simp [hs1]
          have HV := Lib.hid hv
          clear hv HR
          go_enter Try.func22, Try.ntmps22
          go_wp2_with fail
          go_quiet (fail)
          go_wp2_with fail
          go_ret
          exact ⟨ret_bool HV.out.symm, hal.trans below_drewN⟩
        have e1 : (k == 1) = false := by rw [beq_eq_false_iff_ne]; exact h1
        by_cases h2 : k = 2
        · subst h2
          have hv : R = false := by rw [HR.out]; simp
          have HV := Lib.hid hv
          clear hv HR
          go_enter Try.func22, Try.ntmps22
          go_wp2_with fail
          go_quiet (fail)
          go_wp2_with fail
          go_ret
          exact ⟨ret_bool HV.out.symm, hal.trans below_drewN⟩
        have e2 : (k == 2) = false := by rw [beq_eq_false_iff_ne]; exact h2
        by_cases h3 : k = 3
        · subst h3
          have hv : R = false := by rw [HR.out]; simp [hs1]
          have HV := Lib.hid hv
          clear hv HR
          go_enter Try.func22, Try.ntmps22
          go_wp2_with fail
          go_quiet (fail)
          go_wp2_with fail
          go_ret
          exact ⟨ret_bool HV.out.symm, hal.trans below_drewN⟩
        have e3 : (k == 3) = false := by rw [beq_eq_false_iff_ne]; exact h3
        have hv : R = false := by rw [HR.out]; simp [h0, h1, h2, h3]
        have HV := Lib.hid hv
        clear hv HR
        go_enter Try.func22, Try.ntmps22
        go_wp2_with fail
        go_quiet (fail)
        go_wp2_with fail
        go_ret
        exact ⟨ret_bool HV.out.symm, hal.trans below_drewN⟩
      | false =>
        by_cases h0 : k = 0
        · subst h0
          have hv : R = false := by rw [HR.out]; simp [hs1]
          have HV := Lib.hid hv
          clear hv HR
          go_enter Try.func22, Try.ntmps22
          go_wp2_with fail
          go_quiet (fail)
          go_wp2_with fail
          go_ret
          exact ⟨ret_bool HV.out.symm, hal.trans below_drewN⟩
        have e0 : (k == 0) = false := by rw [beq_eq_false_iff_ne]; exact h0
        by_cases h1 : k = 1
        · subst h1
          have hv : R = false := by rw [HR.out]; simp [hs1]
          have HV := Lib.hid hv
          clear hv HR
          go_enter Try.func22, Try.ntmps22
          go_wp2_with fail
          go_quiet (fail)
          go_wp2_with fail
          go_ret
          exact ⟨ret_bool HV.out.symm, hal.trans below_drewN⟩
        have e1 : (k == 1) = false := by rw [beq_eq_false_iff_ne]; exact h1
        by_cases h2 : k = 2
        · subst h2
          by_cases h60 : s.size ≤ 60
          · have hv : R = validB s := by rw [HR.out]; simp [h60]
            have HV := Lib.hid hv
            have hva := fun w => valid_at s h60 w
            have HVA := Lib.hid hva
            have h60' : (s.size : Int) ≤ 60 := by omega
            clear hv HR hva
            go_enter Try.func22, Try.ntmps22
            go_wp2_with fail
            go_quiet (fail)
            go_wp2_with fail
            refine (HVA.out _).mono ?_
            rintro r w1 ⟨rfl, rfl⟩
            go_wp2_with fail
            go_ret
            exact ⟨ret_bool HV.out.symm, hal.trans below_drewN⟩
          · have hv : R = false := by rw [HR.out]; simp [h60]
            have HV := Lib.hid hv
            have h60' : ¬ (s.size : Int) ≤ 60 := by omega
            clear hv HR
            go_enter Try.func22, Try.ntmps22
            go_wp2_with fail
            go_quiet (fail)
            go_wp2_with fail
            go_ret
            exact ⟨ret_bool HV.out.symm, hal.trans below_drewN⟩
        have e2 : (k == 2) = false := by rw [beq_eq_false_iff_ne]; exact h2
        by_cases h3 : k = 3
        · subst h3
          have hv : R = false := by rw [HR.out]; simp [hs1]
          have HV := Lib.hid hv
          clear hv HR
          go_enter Try.func22, Try.ntmps22
          go_wp2_with fail
          go_quiet (fail)
          go_wp2_with fail
          go_ret
          exact ⟨ret_bool HV.out.symm, hal.trans below_drewN⟩
        have e3 : (k == 3) = false := by rw [beq_eq_false_iff_ne]; exact h3
        have hv : R = false := by rw [HR.out]; simp [h0, h1, h2, h3]
        have HV := Lib.hid hv
        clear hv HR
        go_enter Try.func22, Try.ntmps22
        go_wp2_with fail
        go_quiet (fail)
        go_wp2_with fail
        go_ret
        exact ⟨ret_bool HV.out.symm, hal.trans below_drewN⟩
  · have ei : (i == 0) = false := by rw [beq_eq_false_iff_ne]; exact hi
    by_cases hs0 : s.toList = []
    · have hs2 : s.toList.isEmpty = true := by rw [hs0]; rfl
      cases b with
      | true =>
        by_cases h0 : k = 0
        · subst h0
          have hv : R = false := by rw [HR.out]; simp [hi, hs0]
          have HV := Lib.hid hv
          clear hv HR
          go_enter Try.func22, Try.ntmps22
          go_wp2_with fail
          go_quiet (fail)
          go_wp2_with fail
          go_ret
          exact ⟨ret_bool HV.out.symm, hal.trans below_drewN⟩
        have e0 : (k == 0) = false := by rw [beq_eq_false_iff_ne]; exact h0
        by_cases h1 : k = 1
        · subst h1
          have hv : R = false := by rw [HR.out]; simp [hs0]
          have HV := Lib.hid hv
          clear hv HR
          go_enter Try.func22, Try.ntmps22
          go_wp2_with fail
          go_quiet (fail)
          go_wp2_with fail
          go_ret
          exact ⟨ret_bool HV.out.symm, hal.trans below_drewN⟩
        have e1 : (k == 1) = false := by rw [beq_eq_false_iff_ne]; exact h1
        by_cases h2 : k = 2
        · subst h2
          have hv : R = false := by rw [HR.out]; simp [hi]
          have HV := Lib.hid hv
          clear hv HR
          go_enter Try.func22, Try.ntmps22
          go_wp2_with fail
          go_quiet (fail)
          go_wp2_with fail
          go_ret
          exact ⟨ret_bool HV.out.symm, hal.trans below_drewN⟩
        have e2 : (k == 2) = false := by rw [beq_eq_false_iff_ne]; exact h2
        by_cases h3 : k = 3
        · subst h3
          have hv : R = false := by rw [HR.out]; simp [hi, hs0]
          have HV := Lib.hid hv
          clear hv HR
          go_enter Try.func22, Try.ntmps22
          go_wp2_with fail
          go_quiet (fail)
          go_wp2_with fail
          go_ret
          exact ⟨ret_bool HV.out.symm, hal.trans below_drewN⟩
        have e3 : (k == 3) = false := by rw [beq_eq_false_iff_ne]; exact h3
        have hv : R = false := by rw [HR.out]; simp [h0, h1, h2, h3]
        have HV := Lib.hid hv
        clear hv HR
        go_enter Try.func22, Try.ntmps22
        go_wp2_with fail
        go_quiet (fail)
        go_wp2_with fail
        go_ret
        exact ⟨ret_bool HV.out.symm, hal.trans below_drewN⟩
      | false =>
        by_cases h0 : k = 0
        · subst h0
          have hv : R = false := by rw [HR.out]; simp [hi, hs0]
          have HV := Lib.hid hv
          clear hv HR
          go_enter Try.func22, Try.ntmps22
          go_wp2_with fail
          go_quiet (fail)
          go_wp2_with fail
          go_ret
          exact ⟨ret_bool HV.out.symm, hal.trans below_drewN⟩
        have e0 : (k == 0) = false := by rw [beq_eq_false_iff_ne]; exact h0
        by_cases h1 : k = 1
        · subst h1
          have hv : R = true := by rw [HR.out]; simp [hs0]
          have HV := Lib.hid hv
          clear hv HR
          go_enter Try.func22, Try.ntmps22
          go_wp2_with fail
          go_quiet (fail)
          go_wp2_with fail
          go_ret
          exact ⟨ret_bool HV.out.symm, hal.trans below_drewN⟩
        have e1 : (k == 1) = false := by rw [beq_eq_false_iff_ne]; exact h1
        by_cases h2 : k = 2
        · subst h2
          have hv : R = false := by rw [HR.out]; simp [hi]
          have HV := Lib.hid hv
          clear hv HR
          go_enter Try.func22, Try.ntmps22
          go_wp2_with fail
          go_quiet (fail)
          go_wp2_with fail
          go_ret
          exact ⟨ret_bool HV.out.symm, hal.trans below_drewN⟩
        have e2 : (k == 2) = false := by rw [beq_eq_false_iff_ne]; exact h2
        by_cases h3 : k = 3
        · subst h3
          have hv : R = false := by rw [HR.out]; simp [hi, hs0]
          have HV := Lib.hid hv
          clear hv HR
          go_enter Try.func22, Try.ntmps22
          go_wp2_with fail
          go_quiet (fail)
          go_wp2_with fail
          go_ret
          exact ⟨ret_bool HV.out.symm, hal.trans below_drewN⟩
        have e3 : (k == 3) = false := by rw [beq_eq_false_iff_ne]; exact h3
        have hv : R = false := by rw [HR.out]; simp [h0, h1, h2, h3]
        have HV := Lib.hid hv
        clear hv HR
        go_enter Try.func22, Try.ntmps22
        go_wp2_with fail
        go_quiet (fail)
        go_wp2_with fail
        go_ret
        exact ⟨ret_bool HV.out.symm, hal.trans below_drewN⟩
    · have hs1 : s.toList.isEmpty = false := by cases h : s.toList with | nil => exact absurd h hs0 | cons x r => rfl
      cases b with
      | true =>
        by_cases h0 : k = 0
        · subst h0
          have hv : R = false := by rw [HR.out]; simp [hi, hs1]
          have HV := Lib.hid hv
          clear hv HR
          go_enter Try.func22, Try.ntmps22
          go_wp2_with fail
          go_quiet (fail)
          go_wp2_with fail
          go_ret
          exact ⟨ret_bool HV.out.symm, hal.trans below_drewN⟩
        have e0 : (k == 0) = false := by rw [beq_eq_false_iff_ne]; exact h0
        by_cases h1 : k = 1
        · subst h1
          have hv : R = false := by rw [HR.out]; simp [hs1]
          have HV := Lib.hid hv
          clear hv HR
          go_enter Try.func22, Try.ntmps22
          go_wp2_with fail
          go_quiet (fail)
          go_wp2_with fail
          go_ret
          exact ⟨ret_bool HV.out.symm, hal.trans below_drewN⟩
        have e1 : (k == 1) = false := by rw [beq_eq_false_iff_ne]; exact h1
        by_cases h2 : k = 2
        · subst h2
          have hv : R = false := by rw [HR.out]; simp [hi]
          have HV := Lib.hid hv
          clear hv HR
          go_enter Try.func22, Try.ntmps22
          go_wp2_with fail
          go_quiet (fail)
          go_wp2_with fail
          go_ret
          exact ⟨ret_bool HV.out.symm, hal.trans below_drewN⟩
        have e2 : (k == 2) = false := by rw [beq_eq_false_iff_ne]; exact h2
        by_cases h3 : k = 3
        · subst h3
          have hv : R = false := by rw [HR.out]; simp [hi, hs1]
          have HV := Lib.hid hv
          clear hv HR
          go_enter Try.func22, Try.ntmps22
          go_wp2_with fail
          go_quiet (fail)
          go_wp2_with fail
          go_ret
          exact ⟨ret_bool HV.out.symm, hal.trans below_drewN⟩
        have e3 : (k == 3) = false := by rw [beq_eq_false_iff_ne]; exact h3
        have hv : R = false := by rw [HR.out]; simp [h0, h1, h2, h3]
        have HV := Lib.hid hv
        clear hv HR
        go_enter Try.func22, Try.ntmps22
        go_wp2_with fail
        go_quiet (fail)
        go_wp2_with fail
        go_ret
        exact ⟨ret_bool HV.out.symm, hal.trans below_drewN⟩
      | false =>
        by_cases h0 : k = 0
        · subst h0
          have hv : R = false := by rw [HR.out]; simp [hi, hs1]
          have HV := Lib.hid hv
          clear hv HR
          go_enter Try.func22, Try.ntmps22
          go_wp2_with fail
          go_quiet (fail)
          go_wp2_with fail
          go_ret
          exact ⟨ret_bool HV.out.symm, hal.trans below_drewN⟩
        have e0 : (k == 0) = false := by rw [beq_eq_false_iff_ne]; exact h0
        by_cases h1 : k = 1
        · subst h1
          have hv : R = false := by rw [HR.out]; simp [hs1]
          have HV := Lib.hid hv
          clear hv HR
          go_enter Try.func22, Try.ntmps22
          go_wp2_with fail
          go_quiet (fail)
          go_wp2_with fail
          go_ret
          exact ⟨ret_bool HV.out.symm, hal.trans below_drewN⟩
        have e1 : (k == 1) = false := by rw [beq_eq_false_iff_ne]; exact h1
        by_cases h2 : k = 2
        · subst h2
          have hv : R = false := by rw [HR.out]; simp [hi]
          have HV := Lib.hid hv
          clear hv HR
          go_enter Try.func22, Try.ntmps22
          go_wp2_with fail
          go_quiet (fail)
          go_wp2_with fail
          go_ret
          exact ⟨ret_bool HV.out.symm, hal.trans below_drewN⟩
        have e2 : (k == 2) = false := by rw [beq_eq_false_iff_ne]; exact h2
        by_cases h3 : k = 3
        · subst h3
          have hv : R = false := by rw [HR.out]; simp [hi, hs1]
          have HV := Lib.hid hv
          clear hv HR
          go_enter Try.func22, Try.ntmps22
          go_wp2_with fail
          go_quiet (fail)
          go_wp2_with fail
          go_ret
          exact ⟨ret_bool HV.out.symm, hal.trans below_drewN⟩
        have e3 : (k == 3) = false := by rw [beq_eq_false_iff_ne]; exact h3
        have hv : R = false := by rw [HR.out]; simp [h0, h1, h2, h3]
        have HV := Lib.hid hv
        clear hv HR
        go_enter Try.func22, Try.ntmps22
        go_wp2_with fail
        go_quiet (fail)
        go_wp2_with fail
        go_ret
        exact ⟨ret_bool HV.out.symm, hal.trans below_drewN⟩
end Go.Proofs.Ytifcdfilglbdgaa
