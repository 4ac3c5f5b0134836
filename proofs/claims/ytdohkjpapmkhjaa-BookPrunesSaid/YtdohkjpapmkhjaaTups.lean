/-
  SLICES OF VERSIONS (api.Tuple, stamped alone): what they hold, an append, a store into the last one. No function is named but 'tuple'.
-/
import Derived.Test.YtdohkjpapmkhjaaStep
import Derived.Test.YtdohkjpapmkhjaaPair
namespace Go.Proofs.Ytdohkjpapmkhjaa
open Go.RowKit

def tcells (x : Int × Int) : List Value := [.int .u64 0, .int .u64 x.1, .int .u64 x.2, .int .i64 0, .int .i64 0, .slice none 0 0]
theorem tup_agg (a b : Int) : tup a b = .agg (tcells (a, b)).toArray := rfl
/-- v holds versions so stamped, in a block from B on. -/
def Tups (B : Nat) (w : World) (v : Value) (l : List (Int × Int)) : Prop := w.ownsRow B 76 6 v l.length (l.flatMap tcells)

theorem Try.info76 : (Try.prog.info? 76).map (fun i => (i.zero, i.size, i.bytes)) = some (some (.agg #[.int .u64 0, .int .u64 0, .int .u64 0, .int .i64 0, .int .i64 0, .slice none 0 0]), 6, 64) := by kernel_rfl

section
variable {B : Nat} {w w' : World} {v : Value} {l : List (Int × Int)}
/-- What is in the old world stays, whatever is laid behind it. -/
theorem keeper (u : Below w.heap.size w w') {a : Addr} {x : Value} (h : w.cell? a = some x) : w'.cell? a = some x := (Upd.same (S := fun _ => False) u).cell h id
theorem below_drew {w wt : World} (h : Below w.drew.heap.size w.drew wt) : Below w.heap.size w wt := ⟨h.os, h.tape, h.output, h.size, h.block⟩
theorem Tups.upd {S : Nat → Prop} (h : Tups B w v l) (u : Upd S w w') (hs : ∀ b, B ≤ b → ¬ S b) : Tups B w' v l := ownsRow_upd h u (fun b hb => hs b (World.ownsRow.lt h b hb).1)
theorem Tups.same (h : Tups B w v l) (u : Below w.heap.size w w') : Tups B w' v l := h.upd (S := fun _ => False) (Upd.same u) (fun _ _ x => x)
theorem Script2.keep {a : Option Addr} {len : Nat} (h : Script2 w a len) (u : Below w.heap.size w w') : Script2 w' a len := fun i hi => by
  obtain ⟨b, off, d, x, ha, hb, c0, c1, r⟩ := h i hi
  exact ⟨b, off, d, x, ha, Nat.lt_of_lt_of_le hb u.size, (u.cell (p := ⟨b, off + i * 2, none⟩) hb).trans c0, (u.cell (p := ⟨b, off + i * 2 + 1, none⟩) hb).trans c1, r⟩
theorem Tups.nil (B : Nat) (w : World) : Tups B w (.slice none 0 0) [] := World.ownsRow_nil _ _ _ _
theorem Tups.slice (h : Tups B w v l) : ∃ a c, v = .slice a l.length c := ownsRow_slice h
theorem Tups.at (h : Tups B w v l) {i : Nat} (hi : i < l.length) :
    ∃ g cap, v = .slice (some ⟨g, 0, none⟩) l.length cap ∧ B ≤ g ∧ w.frozen? ⟨g, i * 6 + 2, none⟩ = false ∧ w.cell? ⟨g, i * 6, none⟩ = some (.int .u64 0) ∧ w.cell? ⟨g, i * 6 + 1, none⟩ = some (.int .u64 l[i].1) ∧ w.cell? ⟨g, i * 6 + 2, none⟩ = some (.int .u64 l[i].2) ∧
      w.cell? ⟨g, i * 6 + 3, none⟩ = some (.int .i64 0) ∧ w.cell? ⟨g, i * 6 + 4, none⟩ = some (.int .i64 0) ∧ w.cell? ⟨g, i * 6 + 5, none⟩ = some (.slice none 0 0) := by
  have hc : ∀ j, j < 6 → (l.flatMap tcells)[i * 6 + j]? = (tcells l[i])[j]? := fun j hj => by
    rw [getElem?_flat tcells 6 (fun _ => rfl) l i j hj, List.getElem?_eq_getElem hi]; rfl
  obtain ⟨g, cap, rfl, c0, _, hg, _⟩ := ownsRow_cell h (hc 0 (by decide))
  obtain ⟨g1, cap1, e1, c1, _⟩ := ownsRow_cell h (hc 1 (by decide))
  obtain ⟨g2, cap2, e2, c2, f2, _⟩ := ownsRow_cell h (hc 2 (by decide))
  obtain ⟨g3, cap3, e3, c3, _⟩ := ownsRow_cell h (hc 3 (by decide))
  obtain ⟨g4, cap4, e4, c4, _⟩ := ownsRow_cell h (hc 4 (by decide))
  obtain ⟨g5, cap5, e5, c5, _⟩ := ownsRow_cell h (hc 5 (by decide))
  simp only [Value.slice.injEq, Option.some.injEq, Addr.mk.injEq] at e1 e2 e3 e4 e5
  obtain ⟨⟨rfl, _⟩, _, rfl⟩ := e1
  obtain ⟨⟨rfl, _⟩, _, rfl⟩ := e2
  obtain ⟨⟨rfl, _⟩, _, rfl⟩ := e3
  obtain ⟨⟨rfl, _⟩, _, rfl⟩ := e4
  obtain ⟨⟨rfl, _⟩, _, rfl⟩ := e5
  exact ⟨g, cap, rfl, hg, f2, c0, c1, c2, c3, c4, c5⟩

/-- A store into a cell of a row, whatever its elements' size. -/
theorem ownsRow_set {base : Nat} {e : TypeId} {size n g cap j : Nat} {xs : List Value} (h : w.ownsRow base e size (.slice (some ⟨g, 0, none⟩) n cap) n xs) (u : Value) :
    (w.setCell ⟨g, j, none⟩ u).ownsRow base e size (.slice (some ⟨g, 0, none⟩) n cap) n (xs.set j u) := by
  obtain ⟨hl, ⟨h1, h2⟩ | ⟨g', cap', cur, hv, hb, hh, hn, hm, hz, ht⟩⟩ := h
  · cases h1
  · simp only [Value.slice.injEq, Option.some.injEq, Addr.mk.injEq] at hv
    obtain ⟨⟨rfl, _⟩, _, rfl⟩ := hv
    refine ⟨by simpa using hl, .inr ⟨g, cap, cur.setIfInBounds j u, rfl, hb, ?_, hn, hm, by simpa using hz, ?_⟩⟩
    · simp only [World.setCell]
      rw [Array.getElem?_modify]
      simp [hh]
    · rw [Array.toList_setIfInBounds, List.take_set, ht]
theorem flat_length (l : List (Int × Int)) : (l.flatMap tcells).length = l.length * 6 := by
  induction l with
  | nil => rfl
  | cons a r ih => rw [List.flatMap_cons, List.length_append, ih, List.length_cons]; show 6 + _ = _; omega
/-- The last one's second stamp is written. -/
theorem Tups.last {pre : List (Int × Int)} {a b : Int} {g cap : Nat} (h : Tups B w (.slice (some ⟨g, 0, none⟩) (pre.length + 1) cap) (pre ++ [(a, b)])) (x : Int) :
    Tups B (w.setCell ⟨g, pre.length * 6 + 2, none⟩ (.int .u64 x)) (.slice (some ⟨g, 0, none⟩) (pre.length + 1) cap) (pre ++ [(a, x)]) := by
  unfold Tups at *
  rw [List.length_append, List.length_singleton] at h ⊢
  have h1 := ownsRow_set h (j := pre.length * 6 + 2) (.int .u64 x)
  have e : ((pre ++ [(a, b)]).flatMap tcells).set (pre.length * 6 + 2) (.int .u64 x) = (pre ++ [(a, x)]).flatMap tcells := by
    rw [List.flatMap_append, List.flatMap_append, List.set_append_right _ _ (by rw [flat_length]; omega), flat_length]
    have : pre.length * 6 + 2 - pre.length * 6 = 2 := by omega
    rw [this]; rfl
  rw [e] at h1
  exact h1
theorem Tups.snoc {l : List (Int × Int)} {x : Int × Int} {v' : Value} (h : w'.ownsRow B 76 6 v' (l.length + 1) (l.flatMap tcells ++ tcells x)) : Tups B w' v' (l ++ [x]) := by
  unfold Tups
  rw [List.length_append, List.flatMap_append]
  simpa using h
theorem news_block {b : Nat} {cs : List Value} {t : TypeId} {fz : Nat × Nat} (h : w.heap[b]? = some (.cells cs.toArray t fz)) (j : Nat) (u : Value) (hj : cs[j]? = some u) : w.cell? ((⟨b, 0, none⟩ : Addr).add j) = some u := by
  have : (⟨b, 0, none⟩ : Addr).add j = ⟨b, j, none⟩ := by simp [Addr.add]; exact fun h => h.symm
  rw [this]
  exact cell_of_block h (by simpa using hj)
theorem tcells_one (x : Int × Int) (u : Value) (h : u ∈ tcells x) : u.oneCell' = true := by
  simp only [tcells, List.mem_cons, List.not_mem_nil, or_false] at h
  rcases h with rfl | rfl | rfl | rfl | rfl | rfl <;> rfl
end
end Go.Proofs.Ytdohkjpapmkhjaa
