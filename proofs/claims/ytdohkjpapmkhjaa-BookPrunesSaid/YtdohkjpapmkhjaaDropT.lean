/-
  THE BOOK: what it is behind an end: the second stamps of some entries written.
-/
import Derived.Test.YtdohkjpapmkhjaaEnd
namespace Go.Proofs.Ytdohkjpapmkhjaa
open Go.RowKit

def Ent.end (e : Ent) (own : Int) : Ent := ⟨e.id, e.name, e.xmin, own⟩
def endT (bs : List Nat) (own : Int) (T : List (Nat × Ent × Value)) : List (Nat × Ent × Value) := T.map fun t => if t.1 ∈ bs then (t.1, t.2.1.end own, t.2.2) else t
def endI (bs : List Nat) (own : Int) (I : List (Nat × Ent × Int)) : List (Nat × Ent × Int) := I.map fun t => if t.1 ∈ bs then (t.1, t.2.1.end own, t.2.2) else t
theorem endT_fst (bs : List Nat) (own : Int) (T : List (Nat × Ent × Value)) : (endT bs own T).map (·.1) = T.map (·.1) := by
  unfold endT
  rw [List.map_map]
  apply List.map_congr_left
  intro t _
  show (if t.1 ∈ bs then _ else t).1 = t.1
  split <;> rfl
theorem endI_fst (bs : List Nat) (own : Int) (I : List (Nat × Ent × Int)) : (endI bs own I).map (·.1) = I.map (·.1) := by
  unfold endI
  rw [List.map_map]
  apply List.map_congr_left
  intro t _
  show (if t.1 ∈ bs then _ else t).1 = t.1
  split <;> rfl

section
variable {c : Nat → Nat} {k p : Nat} {w w' : World} {tv iv : Value} {T : List (Nat × Ent × Value)} {I : List (Nat × Ent × Int)} {last : Int} {bs : List Nat} {own : Int}
theorem BookAt.ended (h : BookAt c k w p tv iv T I last) (u : Upd (fun b => b ∈ bs) w w') (he : ∀ b ∈ bs, Ended3 own w w' b) (hb : ∀ b ∈ bs, b ∈ T.map (·.1) ∨ b ∈ I.map (·.1)) :
    BookAt c k w' p tv iv (endT bs own T) (endI bs own I) last := by
  have hty : ∀ b ∈ bs, ∃ cs t, w.heap[b]? = some (.cells cs t (0, 0)) ∧ (t = 149 ∨ t = 155) := fun b hm => by
    rcases hb b hm with hm | hm
    · obtain ⟨t, ht, rfl⟩ := List.mem_map.1 hm
      exact ⟨_, _, (h.tabs t ht).1.1, .inl rfl⟩
    · obtain ⟨t, ht, rfl⟩ := List.mem_map.1 hm
      exact ⟨_, _, (h.inds t ht).1, .inr rfl⟩
  have hne : ∀ {b X : Nat} {x : Array Value}, w.heap[b]? = some (.cells x X (0, 0)) → X ≠ 149 → X ≠ 155 → ¬ b ∈ bs := fun hx h1 h2 hm => by
    obtain ⟨cs, t, hc, ht⟩ := hty _ hm
    exact block_ne hx hc (by rcases ht with e | e <;> rw [e] <;> assumption) rfl
  have hrow : ∀ {b e s n : Nat} {v : Value} {xs : List Value}, w.ownsRow b e s v n xs → e ≠ 149 → e ≠ 155 → ∀ g, v.ownBlock = some g → ¬ g ∈ bs := fun hr h1 h2 g hg => by
    obtain ⟨cu, k1⟩ := row_block hr hg
    exact hne k1 h1 h2
  refine ⟨u.heap h.blk (hne h.blk (by decide) (by decide)), ?_, ?_, h.cp, h.ct, h.ci, fun t ht => ?_, fun t ht => ?_, by rw [endT_fst]; exact h.tonce, by rw [endI_fst]; exact h.ionce, by simpa [endT] using h.tlen, by simpa [endI] using h.ilen, h.lo, h.hi⟩
  · rw [endT_fst]
    have := ownsRow_upd h.trow u (hrow h.trow (by decide) (by decide))
    simpa [endT] using this
  · rw [endI_fst]
    have := ownsRow_upd h.irow u (hrow h.irow (by decide) (by decide))
    simpa [endI] using this
  · obtain ⟨t0, h0, rfl⟩ := List.mem_map.1 ht
    obtain ⟨⟨a1, a2⟩, a3, a4⟩ := h.tabs t0 h0
    have a2' : ColsAt w' t0.2.2 := a2.upd u (hrow a2 (by decide) (by decide))
    by_cases hm : t0.1 ∈ bs
    · rw [if_pos hm]
      exact ⟨⟨by have := he _ hm _ _ a1; simpa [Ent.end] using this, a2'⟩, a3, a4⟩
    · rw [if_neg hm]
      exact ⟨⟨u.heap a1 hm, a2'⟩, a3, a4⟩
  · obtain ⟨t0, h0, rfl⟩ := List.mem_map.1 ht
    obtain ⟨a1, a3⟩ := h.inds t0 h0
    by_cases hm : t0.1 ∈ bs
    · rw [if_pos hm]
      exact ⟨by have := he _ hm _ _ a1; unfold IndAt; simpa [Ent.end] using this, a3⟩
    · rw [if_neg hm]
      exact ⟨u.heap a1 hm, a3⟩
end
end Go.Proofs.Ytdohkjpapmkhjaa
