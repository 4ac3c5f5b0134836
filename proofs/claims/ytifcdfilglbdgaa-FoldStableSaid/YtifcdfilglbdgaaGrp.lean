/-
  GROUPS, plainly: numbers put together by what f says of them; one number more.
-/
import Derived.WalkKit
namespace Go.Proofs.Ytifcdfilglbdgaa
section
variable {α : Type} [DecidableEq α] {f : Nat → α} {n : Nat}
/-- Is it the first of its kind? -/
def isFirst (f : Nat → α) (i : Nat) : Bool := !(List.range i).any fun k => decide (f k = f i)
def firsts (f : Nat → α) (n : Nat) : List Nat := (List.range n).filter (isFirst f)
def grpOf (f : Nat → α) (n i : Nat) : List Nat := (List.range n).filter fun k => decide (f k = f i)
def grps (f : Nat → α) (n : Nat) : List (List Nat) := (firsts f n).map (grpOf f n)
theorem isFirst_iff {i : Nat} : isFirst f i = true ↔ ∀ k, k < i → f k ≠ f i := by
  unfold isFirst
  simp
theorem grpOf_succ (n i : Nat) : grpOf f (n + 1) i = if f n = f i then grpOf f n i ++ [n] else grpOf f n i := by
  unfold grpOf
  rw [List.range_succ, List.filter_append]
  by_cases h : f n = f i
  · rw [if_pos h, List.filter_cons_of_pos (by simpa using h)]; rfl
  · rw [if_neg h, List.filter_cons_of_neg (by simpa using h)]; simp
theorem firsts_succ (n : Nat) : firsts f (n + 1) = if isFirst f n = true then firsts f n ++ [n] else firsts f n := by
  unfold firsts
  rw [List.range_succ, List.filter_append]
  by_cases h : isFirst f n = true
  · rw [if_pos h, List.filter_cons_of_pos h]; rfl
  · rw [if_neg h, List.filter_cons_of_neg h]; simp
theorem mem_firsts {i : Nat} : i ∈ firsts f n ↔ i < n ∧ isFirst f i = true := by
  unfold firsts
  rw [List.mem_filter, List.mem_range]
theorem firsts_lt : (firsts f n).Pairwise (· < ·) := List.Pairwise.filter _ List.pairwise_lt_range
/-- The first ones differ. -/
theorem firsts_once {i j : Nat} (hi : i ∈ firsts f n) (hj : j ∈ firsts f n) (h : f i = f j) : i = j := by
  have h1 := isFirst_iff.1 (mem_firsts.1 hi).2
  have h2 := isFirst_iff.1 (mem_firsts.1 hj).2
  rcases Nat.lt_trichotomy i j with e | e | e
  · exact absurd h (h2 i e)
  · exact e
  · exact absurd h.symm (h1 j e)
theorem exists_first : ∀ (i : Nat), ∃ k, k ≤ i ∧ f k = f i ∧ isFirst f k = true := fun i => by
  induction i using Nat.strongRecOn with
  | _ i ih =>
    by_cases h : isFirst f i = true
    · exact ⟨i, Nat.le_refl _, rfl, h⟩
    · have : ∃ k, k < i ∧ f k = f i := Classical.byContradiction fun x => h (isFirst_iff.2 fun k hk e => x ⟨k, hk, e⟩)
      obtain ⟨k, hk, e⟩ := this
      obtain ⟨k', h1, h2, h3⟩ := ih k hk
      exact ⟨k', by omega, h2.trans e, h3⟩
theorem grps_len : (grps f n).length = (firsts f n).length := by simp [grps]
theorem grpOf_new (h : isFirst f n = true) : grpOf f (n + 1) n = [n] := by
  rw [grpOf_succ, if_pos rfl]
  have : grpOf f n n = [] := by
    unfold grpOf
    rw [List.filter_eq_nil_iff]
    intro k hk
    simpa using isFirst_iff.1 h k (List.mem_range.1 hk)
  rw [this]; rfl
theorem grps_new (h : isFirst f n = true) : grps f (n + 1) = grps f n ++ [[n]] := by
  unfold grps
  rw [firsts_succ, if_pos h, List.map_append, List.map_singleton, grpOf_new h]
  congr 1
  apply List.map_congr_left
  intro i hi
  rw [grpOf_succ, if_neg]
  exact fun e => isFirst_iff.1 h i (mem_firsts.1 hi).1 e.symm
theorem grps_old {j : Nat} (hj : j < (firsts f n).length) (h : f (firsts f n)[j] = f n) : grps f (n + 1) = (grps f n).set j ((grps f n)[j]'(by rw [grps_len]; exact hj) ++ [n]) := by
  have hnf : ¬ isFirst f n = true := fun e => isFirst_iff.1 e _ (mem_firsts.1 (List.getElem_mem hj)).1 h
  apply List.ext_getElem
  · simp [grps, firsts_succ, hnf]
  intro k h1 h2
  have hk : k < (firsts f n).length := by simpa [grps] using h2
  have e1 : (grps f (n + 1))[k] = grpOf f (n + 1) (firsts f n)[k] := by simp [grps, firsts_succ, hnf]
  rw [e1, List.getElem_set, grpOf_succ]
  by_cases e : j = k
  · subst e
    rw [if_pos rfl, if_pos h.symm]
    simp [grps]
  · rw [if_neg e, if_neg]
    · simp [grps]
    · intro e2
      have := firsts_once (List.getElem_mem hj) (List.getElem_mem hk) (h.trans e2)
      exact e ((List.getElem_inj (firsts_lt.imp (fun h => Nat.ne_of_lt h) : (firsts f n).Nodup)).1 this)
theorem not_first {n : Nat} (h : ¬ isFirst f n = true) : ∃ j, ∃ hj : j < (firsts f n).length, f (firsts f n)[j] = f n := by
  obtain ⟨k, h1, h2, h3⟩ := exists_first (f := f) n
  have hk : k < n := by
    rcases Nat.lt_or_eq_of_le h1 with e | e
    · exact e
    · subst e; exact absurd h3 h
  obtain ⟨j, hj, e⟩ := List.mem_iff_getElem.1 (mem_firsts.2 ⟨hk, h3⟩)
  exact ⟨j, hj, by rw [e]; exact h2⟩
/-- A group begins with its first one. -/
theorem grpOf_head {i : Nat} (hi : i ∈ firsts f n) : ∃ r, grpOf f n i = i :: r := by
  obtain ⟨h1, h2⟩ := mem_firsts.1 hi
  have h3 := isFirst_iff.1 h2
  unfold grpOf
  have e : List.range n = List.range i ++ (List.range (n - i)).map (i + ·) := by
    rw [← List.range_add]; congr 1; omega
  rw [e, List.filter_append]
  have e1 : (List.range i).filter (fun k => decide (f k = f i)) = [] := by
    rw [List.filter_eq_nil_iff]
    intro k hk
    simpa using h3 k (List.mem_range.1 hk)
  obtain ⟨m, hm⟩ : ∃ m, n - i = m + 1 := ⟨n - i - 1, by omega⟩
  rw [e1, hm, List.nil_append, List.range_succ_eq_map, List.map_cons, List.filter_cons_of_pos (by simp)]
  exact ⟨_, rfl⟩
theorem grps_at {j : Nat} (hj : j < (grps f n).length) : ∃ r, (grps f n)[j] = (firsts f n)[j]'(by rw [← grps_len]; exact hj) :: r := by
  obtain ⟨r, hr⟩ := grpOf_head (f := f) (n := n) (List.getElem_mem (by rw [← grps_len]; exact hj : j < (firsts f n).length))
  exact ⟨r, by simpa [grps] using hr⟩
end
end Go.Proofs.Ytifcdfilglbdgaa
