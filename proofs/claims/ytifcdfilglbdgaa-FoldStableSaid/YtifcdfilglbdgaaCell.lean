/-
  VALUES AND THEIR ORDER (package cell): rank, open, bit, cmp.Compare, order, Same, Less: of any two values.
-/
import Derived.Test.YtifcdfilglbdgaaBase
import Derived.Test.YtifcdfilglbdgaaOrd
namespace Go.Proofs.Ytifcdfilglbdgaa
open Go.RowKit

theorem rank_at (k : Int) (w : World) : Calls Try.prog 42 #[.int .u8 k] w fun r w' => r = .returned (.int .i64 (rankI k)) ∧ w = w' := by
  unfold rankI
  by_cases h3 : k = 3
  · subst h3
    go_enter Try.func42, Try.ntmps42
    go_wp2
    go_ret
    exact ⟨rfl, rfl⟩
  have e3 : (k == 3) = false := by rw [beq_eq_false_iff_ne]; exact h3
  by_cases h1 : k = 1
  · subst h1
    go_enter Try.func42, Try.ntmps42
    go_wp2
    go_ret
    exact ⟨rfl, rfl⟩
  have e1 : (k == 1) = false := by rw [beq_eq_false_iff_ne]; exact h1
  by_cases h2 : k = 2
  · subst h2
    go_enter Try.func42, Try.ntmps42
    go_wp2
    go_ret
    exact ⟨rfl, rfl⟩
  have e2 : (k == 2) = false := by rw [beq_eq_false_iff_ne]; exact h2
  rw [if_neg h3, if_neg h1, if_neg h2]
  clear h1 h2 h3
  go_enter Try.func42, Try.ntmps42
  go_wp2
  go_ret
  exact ⟨rfl, rfl⟩
theorem bit_at (b : Bool) (w : World) : Calls Try.prog 46 #[.bool b] w fun r w' => r = .returned (.int .i64 (bitI b)) ∧ w = w' := by
  cases b
  all_goals
    go_enter Try.func46, Try.ntmps46
    go_wp2
    go_ret
    exact ⟨rfl, rfl⟩
theorem nan48 (x : Int) (w : World) : Calls Try.prog 48 #[.int .i64 x] w fun r w' => r = .returned (.bool false) ∧ w = w' := by
  go_enter Try.func48, Try.ntmps48
  go_wp2
  go_ret
  exact ⟨by simp, rfl⟩
theorem nan49 (x : Int) (w : World) : Calls Try.prog 49 #[.int .i64 x] w fun r w' => r = .returned (.bool false) ∧ w = w' := by
  go_enter Try.func49, Try.ntmps49
  go_wp2
  go_ret
  exact ⟨by simp, rfl⟩
theorem nan50 (x : ByteArray) (w : World) : Calls Try.prog 50 #[.string x] w fun r w' => r = .returned (.bool false) ∧ w = w' := by
  go_enter Try.func50, Try.ntmps50
  go_wp2
  go_ret
  exact ⟨by simp, rfl⟩
theorem cmp41 (x y : Int) (w : World) : Calls Try.prog 41 #[.int .i64 x, .int .i64 y] w fun r w' => r = .returned (.int .i64 (cmpI x y)) ∧ w = w' := by
  unfold cmpI
  by_cases h1 : x < y
  · rw [if_pos h1]
    go_enter Try.func41, Try.ntmps41
    go_wp2_with (first | (go_at_call 48; (with_reducible refine (nan48 _ _).mono ?_); rintro r w1 ⟨rfl, rfl⟩))
    go_ret
    exact ⟨rfl, rfl⟩
  · rw [if_neg h1]
    by_cases h2 : y < x
    · rw [if_pos h2]
      go_enter Try.func41, Try.ntmps41
      go_wp2_with (first | (go_at_call 48; (with_reducible refine (nan48 _ _).mono ?_); rintro r w1 ⟨rfl, rfl⟩))
      go_ret
      exact ⟨rfl, rfl⟩
    · rw [if_neg h2]
      go_enter Try.func41, Try.ntmps41
      go_wp2_with (first | (go_at_call 48; (with_reducible refine (nan48 _ _).mono ?_); rintro r w1 ⟨rfl, rfl⟩))
      go_ret
      exact ⟨rfl, rfl⟩
theorem cmp44 (x y : Int) (w : World) : Calls Try.prog 44 #[.int .i64 x, .int .i64 y] w fun r w' => r = .returned (.int .i64 (cmpI x y)) ∧ w = w' := by
  unfold cmpI
  by_cases h1 : x < y
  · rw [if_pos h1]
    go_enter Try.func44, Try.ntmps44
    go_wp2_with (first | (go_at_call 49; (with_reducible refine (nan49 _ _).mono ?_); rintro r w1 ⟨rfl, rfl⟩))
    go_ret
    exact ⟨rfl, rfl⟩
  · rw [if_neg h1]
    by_cases h2 : y < x
    · rw [if_pos h2]
      go_enter Try.func44, Try.ntmps44
      go_wp2_with (first | (go_at_call 49; (with_reducible refine (nan49 _ _).mono ?_); rintro r w1 ⟨rfl, rfl⟩))
      go_ret
      exact ⟨rfl, rfl⟩
    · rw [if_neg h2]
      go_enter Try.func44, Try.ntmps44
      go_wp2_with (first | (go_at_call 49; (with_reducible refine (nan49 _ _).mono ?_); rintro r w1 ⟨rfl, rfl⟩))
      go_ret
      exact ⟨rfl, rfl⟩
theorem cmp45 (x y : ByteArray) (w : World) : Calls Try.prog 45 #[.string x, .string y] w fun r w' => r = .returned (.int .i64 (cmpS x y)) ∧ w = w' := by
  unfold cmpS
  cases h1 : Op.bytesLess x.toList y.toList with
  | true =>
    rw [if_pos rfl]
    go_enter Try.func45, Try.ntmps45
    go_wp2_with (first | (go_at_call 50; (with_reducible refine (nan50 _ _).mono ?_); rintro r w1 ⟨rfl, rfl⟩))
    go_ret
    exact ⟨rfl, rfl⟩
  | false =>
    rw [if_neg (by decide)]
    cases h2 : Op.bytesLess y.toList x.toList with
    | true =>
      rw [if_pos rfl]
      have h3 : (x.toList == y.toList) = false := by rw [beq_eq_false_iff_ne]; intro e; rw [e, bytesLess_irrefl] at h2; cases h2
      go_enter Try.func45, Try.ntmps45
      go_wp2_with (first | (go_at_call 50; (with_reducible refine (nan50 _ _).mono ?_); rintro r w1 ⟨rfl, rfl⟩))
      go_ret
      exact ⟨rfl, rfl⟩
    | false =>
      rw [if_neg (by decide)]
      have h3 : (x.toList == y.toList) = true := by rw [beq_iff_eq]; exact bytesLess_total h1 h2
      go_enter Try.func45, Try.ntmps45
      go_wp2_with (first | (go_at_call 50; (with_reducible refine (nan50 _ _).mono ?_); rintro r w1 ⟨rfl, rfl⟩))
      go_ret
      exact ⟨rfl, rfl⟩

set_option maxRecDepth 100000 in
/-- cell.open. -/
theorem open_at (v : V) (w : World) : Calls Try.prog 43 #[v.val] w fun r w' => r = .returned (openV v) ∧ Below w.heap.size w w' := by
  obtain ⟨k, i, s, b⟩ := v
  unfold V.val openV
  simp only
  by_cases h1 : k = 1
  · subst h1
    go_enter Try.func43, Try.ntmps43
    go_wp2
    go_ret
    exact ⟨rfl, below_alloc _ _⟩
  have e1 : (k == 1) = false := by rw [beq_eq_false_iff_ne]; exact h1
  rw [if_neg h1]
  by_cases h2 : k = 2
  · subst h2
    go_enter Try.func43, Try.ntmps43
    go_wp2
    go_ret
    exact ⟨rfl, below_alloc _ _⟩
  have e2 : (k == 2) = false := by rw [beq_eq_false_iff_ne]; exact h2
  rw [if_neg h2]
  by_cases h3 : k = 3
  · subst h3
    go_enter Try.func43, Try.ntmps43
    go_wp2
    go_ret
    exact ⟨rfl, below_alloc _ _⟩
  have e3 : (k == 3) = false := by rw [beq_eq_false_iff_ne]; exact h3
  rw [if_neg h3]
  clear h1 h2 h3
  go_enter Try.func43, Try.ntmps43
  go_wp2
  go_ret
  exact ⟨rfl, below_alloc _ _⟩
end Go.Proofs.Ytifcdfilglbdgaa
