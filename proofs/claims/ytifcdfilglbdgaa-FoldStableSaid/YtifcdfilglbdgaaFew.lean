/-
  lapidarylaw19.num, same (of numbers): what they come to.
-/
import Derived.Test.YtifcdfilglbdgaaRow2
namespace Go.Proofs.Ytifcdfilglbdgaa
open Go.RowKit
/-- iv is a slice of the numbers l. -/
def IntsAt (w : World) (iv : Value) (l : List Int) : Prop := ∃ a cap, iv = .slice a l.length cap ∧ l.length ≤ 1000 ∧ ∀ i (h : i < l.length), ∃ b off, a = some ⟨b, off, none⟩ ∧ w.cell? ⟨b, off + i, none⟩ = some (.int .i64 l[i])
section
variable {w w' : World} {av bv : Value} {a b : List Int}
theorem IntsAt.same (h : IntsAt w av a) (u : Below w.heap.size w w') : IntsAt w' av a := by
  obtain ⟨aa, cap, h1, h2, h3⟩ := h
  refine ⟨aa, cap, h1, h2, fun i hi => ?_⟩
  obtain ⟨b, off, e, c0⟩ := h3 i hi
  exact ⟨b, off, e, keeper u c0⟩
theorem IntsAt.row {base : Nat} {e : TypeId} {v : Value} {l : List Int} (h : w.ownsRow base e 1 v l.length (l.map (Value.int .i64))) (hl : l.length ≤ 1000) : IntsAt w v l := by
  obtain ⟨a, cap, hv⟩ := ownsRow_slice h
  refine ⟨a, cap, hv, hl, fun i hi => ?_⟩
  obtain ⟨g, cap', e1, c, _⟩ := ownsRow_cell1 h (j := i) (u := .int .i64 l[i]) (by simp [hi])
  rw [hv] at e1
  simp only [Value.slice.injEq] at e1
  obtain ⟨rfl, _, rfl⟩ := e1
  exact ⟨g, 0, rfl, by rw [Nat.zero_add]; exact c⟩

set_option maxRecDepth 100000 in
/-- lapidarylaw19.same: they are. -/
theorem sameInts_at (ha : IntsAt w av a) (hb : IntsAt w bv a) : Calls Try.prog 13 #[av, bv] w fun r w' => r = .returned (.bool true) ∧ ∃ n, w' = w.drewN n := by
  obtain ⟨aa, ca, rfl, hal, hac⟩ := ha
  obtain ⟨ba, cb, rfl, hbl, hbc⟩ := hb
  have HA := Lib.hid hac; have HB := Lib.hid hbc
  clear hac hbc
  go_enter Try.func13, Try.ntmps13
  go_wp2_with fail
  go_loopw [13] (fun i wr => ∃ n : Nat, n ≤ a.length ∧ i = .int .i64 n ∧ ∃ m, wr = w.drewN m) (fun i _ => a.length - (intOf i).toNat)
  case atStart => exact ⟨0, Nat.zero_le _, rfl, 0, rfl⟩
  case round =>
    obtain ⟨n, hn, rfl, m, rfl⟩ := hrel
    by_cases hlt : n < a.length
    · obtain ⟨g, off, hg, x0⟩ := HA.out n hlt
      obtain ⟨g2, off2, hg2, y0⟩ := HB.out n hlt
      subst hg hg2
      obtain ⟨x, hx⟩ : ∃ x, x = a[n] := ⟨_, rfl⟩
      rw [← hx] at x0 y0
      clear hx
      have hi0 : (0 : Int) ≤ (n : Int) := by omega
      have hi1 : (n : Int) < (a.length : Int) := by omega
      go_wp2_with fail
      go_quiet (fail)
      go_wp2_with fail
      go_roundw
      case rel => exact ⟨n + 1, by omega, by go_num, _, rfl⟩
      case measure => simp [intOf]; omega
    · have hnl : n = a.length := by omega
      subst hnl
      go_wp2_with fail
      go_ret
      exact ⟨rfl, _, rfl⟩
end

def vcells (v : V) : List Value := [.int .u8 v.k, .int .i64 v.i, .string v.s, .bool v.b]
theorem RowAt.one {w : World} {b cap : Nat} {v : V} (h : w.heap[b]? = some (.cells (vcells v).toArray 39 (0, 0))) : RowAt w (.slice (some ⟨b, 0, none⟩) 1 cap) [v] := by
  refine ⟨_, cap, rfl, by simp, fun i hi => ?_⟩
  have : i = 0 := by simp at hi; exact hi
  subst this
  exact ⟨b, 0, rfl, cell_of_block h rfl, cell_of_block h rfl, cell_of_block h rfl, cell_of_block h rfl⟩
/-- lapidarylaw19.num. -/
theorem num_at (n : Int) (w : World) : Calls Try.prog 21 #[.int .i64 n] w fun r w' => (∃ g, r = .returned (.slice (some ⟨g, 0, none⟩) 1 1) ∧ RowAt w' (.slice (some ⟨g, 0, none⟩) 1 1) [⟨1, n, ⟨#[]⟩, false⟩]) ∧ Below w.heap.size w w' := by
  go_enter Try.func21, Try.ntmps21
  go_wp2
  go_ret
  exact ⟨⟨_, rfl, RowAt.one (v := ⟨1, n, ⟨#[]⟩, false⟩) (heap_new1 w _)⟩, below_alloc _ _⟩
end Go.Proofs.Ytifcdfilglbdgaa
