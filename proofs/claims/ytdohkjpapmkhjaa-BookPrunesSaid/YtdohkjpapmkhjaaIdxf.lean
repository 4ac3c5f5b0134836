/-
  slices.IndexFunc over the one column, by the column's name.
-/
import Derived.Test.YtdohkjpapmkhjaaInds
namespace Go.Proofs.Ytdohkjpapmkhjaa
open Go.RowKit
set_option maxRecDepth 100000 in
/-- CreateIndex's function of a column: is it named so? -/
theorem named_at {w : World} {na : ByteArray} {q : Nat} (hq : w.cell? ⟨q, 0, none⟩ = some (.string na)) :
    Calls Try.prog 71 #[.agg #[.string na, .int .u8 1], .pointer (some ⟨q, 0, none⟩)] w fun r w' => r = .returned (.bool true) ∧ Below w.heap.size w w' := by
  have hb := World.block_lt_of_cell? w _ hq
  simp only at hb
  have hal : Below w.heap.size w (w.alloc (.cells #[.string na, .int .u8 1] 147)) := (Below.refl _ _).alloc (Nat.le_refl _) _
  have hq' := keeper hal hq
  go_enter Try.func71, Try.ntmps71
  go_wp2
  go_ret
  exact ⟨rfl, hal⟩

set_option maxRecDepth 100000 in
/-- slices.IndexFunc: the first one. -/
theorem idxf_at {w : World} {cv : Value} {q : Nat} (h : ColsAt w cv) (hq : w.cell? ⟨q, 0, none⟩ = some (.string nameA)) :
    Calls Try.prog 70 #[cv, .func (.func 71) #[] #[.pointer (some ⟨q, 0, none⟩)]] w fun r w' => r = .returned (.int .i64 0) ∧ Below w.heap.size w w' := by
  obtain ⟨g, cap, rfl, c0, c1⟩ := h.cells
  obtain ⟨na, hna⟩ : ∃ na, na = nameA := ⟨_, rfl⟩
  rw [← hna] at c0 hq
  clear hna h
  go_enter Try.func70, Try.ntmps70
  go_wp2_with fail
  go_loopw [8] (fun i wr => i = .int .i64 0 ∧ wr = w) (fun i _ => 1 - (intOf i).toNat)
  case atStart => exact ⟨rfl, rfl⟩
  case round =>
    obtain ⟨rfl, rfl⟩ := hrel
    go_wp2_with fail
    refine (named_at hq).mono ?_
    rintro r w1 ⟨rfl, hk1⟩
    go_wp2_with fail
    go_ret
    exact ⟨rfl, hk1⟩
end Go.Proofs.Ytdohkjpapmkhjaa
