/-
  WHICH GROUP EACH NUMBER IS IN, plainly: a map filled group by group.
-/
import Derived.Test.YtifcdfilglbdgaaMaps
import Derived.Test.YtifcdfilglbdgaaGrp
namespace Go.Proofs.Ytifcdfilglbdgaa

def mOf (p : List (Nat × Nat)) : List (Int × Value) := p.foldl (fun m x => mset m (x.1 : Int) (.int .i64 (x.2 : Int))) []
theorem mOf_snoc (p : List (Nat × Nat)) (a : Nat × Nat) : mOf (p ++ [a]) = mset (mOf p) (a.1 : Int) (.int .i64 (a.2 : Int)) := by unfold mOf; rw [List.foldl_append]; rfl
theorem mOf_rev (q : List (Nat × Nat)) : (q.map (·.1)).Nodup → (mOf q.reverse).length = q.length ∧ (∀ x ∈ q, mget (mOf q.reverse) (x.1 : Int) = some (.int .i64 (x.2 : Int))) ∧ ∀ i : Nat, i ∉ q.map (·.1) → mget (mOf q.reverse) (i : Int) = none := by
  induction q with
  | nil => exact fun _ => ⟨rfl, (fun x hx => by cases hx), fun i _ => rfl⟩
  | cons a q ih =>
    intro hn
    rw [List.map_cons, List.nodup_cons] at hn
    obtain ⟨h1, h2, h3⟩ := ih hn.2
    rw [List.reverse_cons, mOf_snoc]
    refine ⟨?_, fun x hx => ?_, fun i hi => ?_⟩
    · rw [length_mset, h3 a.1 hn.1]; simp [h1]
    · rw [mget_mset]
      rcases List.mem_cons.1 hx with rfl | hx
      · rw [if_pos rfl]
      · rw [if_neg, h2 x hx]
        intro e
        exact hn.1 (List.mem_map.2 ⟨x, hx, by omega⟩)
    · rw [List.map_cons, List.mem_cons] at hi
      rw [mget_mset, if_neg (by omega)]
      exact h3 i (fun x => hi (.inr x))
theorem mOf_all {p : List (Nat × Nat)} (h : (p.map (·.1)).Nodup) : (mOf p).length = p.length ∧ ∀ x ∈ p, mget (mOf p) (x.1 : Int) = some (.int .i64 (x.2 : Int)) := by
  have := mOf_rev p.reverse (by rw [List.map_reverse]; exact List.pairwise_reverse.2 (h.imp (fun e => Ne.symm e)))
  rw [List.reverse_reverse] at this
  exact ⟨by rw [this.1]; simp, fun x hx => this.2.1 x (List.mem_reverse.2 hx)⟩

section
variable {α : Type} [DecidableEq α] {f : Nat → α} {n : Nat}
/-- The pairs of the first g groups. -/
def flat (G : List (List Nat)) (g : Nat) : List (Nat × Nat) := (List.range g).flatMap fun j => (G.getD j []).map fun i => (i, j)
theorem flat_succ (G : List (List Nat)) (g : Nat) : flat G (g + 1) = flat G g ++ (G.getD g []).map fun i => (i, g) := by
  unfold flat
  rw [List.range_succ, List.flatMap_append]; simp
theorem mem_flat {G : List (List Nat)} {g : Nat} {x : Nat × Nat} : x ∈ flat G g ↔ x.2 < g ∧ x.1 ∈ G.getD x.2 [] := by
  unfold flat
  rw [List.mem_flatMap]
  constructor
  · rintro ⟨j, hj, hx⟩
    obtain ⟨i, hi, rfl⟩ := List.mem_map.1 hx
    exact ⟨List.mem_range.1 hj, hi⟩
  · rintro ⟨h1, h2⟩
    exact ⟨x.2, List.mem_range.2 h1, List.mem_map.2 ⟨x.1, h2, rfl⟩⟩
theorem grps_getD {j : Nat} (hj : j < (firsts f n).length) : (grps f n).getD j [] = grpOf f n (firsts f n)[j] := by
  simp [grps, List.getD_eq_getElem?_getD, hj]
theorem mem_grp {j i : Nat} (hj : j < (firsts f n).length) : i ∈ (grps f n).getD j [] ↔ i < n ∧ f i = f (firsts f n)[j] := by
  rw [grps_getD hj]; unfold grpOf; rw [List.mem_filter, List.mem_range]; simp
theorem flat_nodup : ∀ g, g ≤ (firsts f n).length → ((flat (grps f n) g).map (·.1)).Nodup
  | 0, _ => by simp [flat]
  | g + 1, hg => by
    rw [flat_succ, List.map_append, List.nodup_append]
    refine ⟨flat_nodup g (by omega), ?_, ?_⟩
    · rw [List.map_map]
      have : ((fun x : Nat × Nat => x.1) ∘ fun i => (i, g)) = id := rfl
      rw [this, List.map_id, grps_getD (by omega)]
      exact List.Pairwise.filter _ List.nodup_range
    · intro a ha b hb e
      subst e
      obtain ⟨x, hx, rfl⟩ := List.mem_map.1 ha
      obtain ⟨y, hy, e2⟩ := List.mem_map.1 hb
      obtain ⟨i, hi, rfl⟩ := List.mem_map.1 hy
      obtain ⟨h1, h2⟩ := mem_flat.1 hx
      have e3 : i = x.1 := e2
      subst e3
      have k1 := (mem_grp (by omega : x.2 < (firsts f n).length)).1 h2
      have k2 := (mem_grp (by omega : g < (firsts f n).length)).1 hi
      have := firsts_once (List.getElem_mem (by omega : x.2 < (firsts f n).length)) (List.getElem_mem (by omega : g < (firsts f n).length)) (k1.2.symm.trans k2.2)
      have := (List.getElem_inj (firsts_lt.imp (fun h => Nat.ne_of_lt h) : (firsts f n).Nodup)).1 this
      omega
theorem flat_all {i : Nat} (hi : i < n) : ∃ g, ∃ hg : g < (firsts f n).length, (i, g) ∈ flat (grps f n) (firsts f n).length ∧ f (firsts f n)[g] = f i := by
  obtain ⟨k, h1, h2, h3⟩ := exists_first (f := f) i
  obtain ⟨g, hg, e⟩ := List.mem_iff_getElem.1 (mem_firsts.2 ⟨by omega, h3⟩ : k ∈ firsts f n)
  refine ⟨g, hg, mem_flat.2 ⟨hg, (mem_grp hg).2 ⟨hi, by rw [e]; exact h2.symm⟩⟩, by rw [e]; exact h2⟩
theorem flat_len : (flat (grps f n) (firsts f n).length).length = n := by
  have h1 := flat_nodup (f := f) (n := n) _ (Nat.le_refl _)
  have h2 : ((flat (grps f n) (firsts f n).length).map (·.1)).Perm (List.range n) := by
    refine (List.perm_ext_iff_of_nodup h1 List.nodup_range).2 fun i => ?_
    rw [List.mem_map, List.mem_range]
    constructor
    · rintro ⟨x, hx, rfl⟩
      obtain ⟨h3, h4⟩ := mem_flat.1 hx
      exact ((mem_grp h3).1 h4).1
    · intro hi
      obtain ⟨g, _, h3, _⟩ := flat_all (f := f) hi
      exact ⟨_, h3, rfl⟩
  have := h2.length_eq
  simpa using this
/-- What the whole map says. -/
theorem mOf_flat {i : Nat} (hi : i < n) : ∃ g, ∃ hg : g < (firsts f n).length, mget (mOf (flat (grps f n) (firsts f n).length)) (i : Int) = some (.int .i64 (g : Int)) ∧ f (firsts f n)[g] = f i := by
  obtain ⟨g, hg, h1, h2⟩ := flat_all (f := f) hi
  exact ⟨g, hg, (mOf_all (flat_nodup _ (Nat.le_refl _))).2 _ h1, h2⟩
theorem firsts_inj {g h : Nat} (hg : g < (firsts f n).length) (hh : h < (firsts f n).length) : (f (firsts f n)[g] = f (firsts f n)[h]) ↔ g = h := by
  constructor
  · intro e
    exact (List.getElem_inj (firsts_lt.imp (fun h => Nat.ne_of_lt h) : (firsts f n).Nodup)).1 (firsts_once (List.getElem_mem hg) (List.getElem_mem hh) e)
  · rintro rfl; rfl
end
end Go.Proofs.Ytifcdfilglbdgaa
