/-
  HOW OFTEN EACH NUMBER WAS MET, plainly: a map of counts; and fold.Limit.
-/
import Derived.Test.YtifcdfilglbdgaaFlat
import Derived.Test.YtifcdfilglbdgaaSort
namespace Go.Proofs.Ytifcdfilglbdgaa
open Go.RowKit

structure CntOf (m : List (Int × Value)) (q : List Int) : Prop where
  get : ∀ i, mget m i = if i ∈ q then some (.int .i64 ((q.count i : Nat) : Int)) else none
section
variable {m : List (Int × Value)} {q : List Int} {x : Int}
theorem CntOf.nil : CntOf [] [] := ⟨fun i => by simp [mget_nil]⟩
theorem CntOf.val (h : CntOf m q) (x : Int) : (mget m x).getD (.int .i64 0) = .int .i64 ((q.count x : Nat) : Int) := by
  rw [h.get]
  by_cases e : x ∈ q
  · rw [if_pos e]; rfl
  · rw [if_neg e, List.count_eq_zero_of_not_mem e]; rfl
theorem CntOf.add (h : CntOf m q) (x : Int) : CntOf (mset m x (.int .i64 (((q.count x : Nat) : Int) + 1))) (q ++ [x]) := ⟨fun i => by
  rw [mget_mset]
  by_cases e : i = x
  · subst e
    rw [if_pos rfl, if_pos (by simp), List.count_append]
    simp
  · rw [if_neg e, h.get]
    have h1 : (i ∈ q ++ [x]) ↔ i ∈ q := by simp [e]
    have h0 : [x].count i = 0 := List.count_eq_zero_of_not_mem (by simpa using e)
    have h2 : (q ++ [x]).count i = q.count i := by rw [List.count_append, h0, Nat.add_zero]
    simp only [h1, h2]⟩
theorem CntOf.len_new (h : CntOf m q) (hx : x ∉ q) (v : Value) : (mset m x v).length = m.length + 1 := by
  rw [length_mset, h.get, if_neg hx]; rfl
theorem CntOf.len_old (h : CntOf m q) (hx : x ∈ q) (v : Value) : (mset m x v).length = m.length := by
  rw [length_mset, h.get, if_pos hx]; rfl
theorem count_one : ∀ {l : List Int}, l.Nodup → x ∈ l → l.count x = 1
  | [], _, h => by cases h
  | y :: l, hn, h => by
    rw [List.nodup_cons] at hn
    rw [List.count_cons]
    by_cases e : y = x
    · subst e
      rw [List.count_eq_zero_of_not_mem hn.1]; simp
    · have hx : x ∈ l := by
        rcases List.mem_cons.1 h with e2 | h
        · exact absurd e2.symm e
        · exact h
      rw [count_one hn.2 hx]; simp [e]
theorem idxs_nodup (n : Nat) : (idxs n).Nodup := (idxs_asc n).imp (fun h => by omega)
theorem count_perm {l : List Int} {n : Nat} (hp : l.Perm (idxs n)) (h : 0 ≤ x ∧ x < n) : l.count x = 1 := by
  rw [hp.count_eq]
  exact count_one (idxs_nodup n) (mem_idxs.2 h)
end
def fstI (p : List (Nat × Nat)) : List Int := p.map fun x => (x.1 : Int)
theorem flat_perm {α : Type} [DecidableEq α] {f : Nat → α} {n : Nat} : (fstI (flat (grps f n) (firsts f n).length)).Perm (idxs n) := by
  have h1 := flat_nodup (f := f) (n := n) _ (Nat.le_refl _)
  have h2 : ((flat (grps f n) (firsts f n).length).map (·.1)).Perm (List.range n) := by
    refine (List.perm_ext_iff_of_nodup h1 List.nodup_range).2 fun i => ?_
    rw [List.mem_map, List.mem_range]
    constructor
    · rintro ⟨x, hx, rfl⟩
      obtain ⟨h3, h4⟩ := mem_flat.1 hx
      exact ((mem_grp h3).1 h4).1
    · intro hi
      obtain ⟨g, _, h3, _⟩ := flat_all (f := f) hi
      exact ⟨_, h3, rfl⟩
  have h3 := h2.map fun (i : Nat) => (i : Int)
  rw [List.map_map] at h3
  exact h3

def limI (z most : Int) : Int := if most < 0 ∨ z < most then z else most
set_option maxRecDepth 100000 in
/-- fold.Limit. -/
theorem limit_at (n most z : Int) (hz : (n < 0 ∧ z = 0) ∨ (0 ≤ n ∧ z = n)) (w : World) : Calls Try.prog 20 #[.int .i64 n, .int .i64 most] w fun r w' => r = .returned (.int .i64 (limI z most)) ∧ w = w' := by
  unfold limI
  rcases hz with ⟨hn, rfl⟩ | ⟨hn, rfl⟩
  · by_cases h1 : most < 0
    · rw [if_pos (.inl h1)]
      go_enter Try.func20, Try.ntmps20
      go_wp2_with fail
      go_ret
      exact ⟨rfl, rfl⟩
    · by_cases h2 : 0 < most
      · rw [if_pos (.inr h2)]
        have h3 : most > 0 := h2
        go_enter Try.func20, Try.ntmps20
        go_wp2_with fail
        go_ret
        exact ⟨rfl, rfl⟩
      · rw [if_neg (by omega)]
        have h3 : ¬ most > 0 := h2
        go_enter Try.func20, Try.ntmps20
        go_wp2_with fail
        go_ret
        exact ⟨rfl, rfl⟩
  · by_cases h1 : most < 0
    · rw [if_pos (.inl h1)]
      go_enter Try.func20, Try.ntmps20
      go_wp2_with fail
      go_ret
      exact ⟨rfl, rfl⟩
    · by_cases h2 : z < most
      · rw [if_pos (.inr h2)]
        have h3 : most > z := h2
        go_enter Try.func20, Try.ntmps20
        go_wp2_with fail
        go_ret
        exact ⟨rfl, rfl⟩
      · rw [if_neg (by omega)]
        have h3 : ¬ most > z := h2
        go_enter Try.func20, Try.ntmps20
        go_wp2_with fail
        go_ret
        exact ⟨rfl, rfl⟩
end Go.Proofs.Ytifcdfilglbdgaa
