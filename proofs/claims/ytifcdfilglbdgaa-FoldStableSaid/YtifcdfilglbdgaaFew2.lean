/-
  lapidarylaw19.few: right keys, not too many, all of one length.
-/
import Derived.Test.YtifcdfilglbdgaaRight
import Derived.Test.YtifcdfilglbdgaaFew
import Derived.Test.YtifcdfilglbdgaaGroups
namespace Go.Proofs.Ytifcdfilglbdgaa
open Go.RowKit

/-- A slice of values that came in. -/
def RowIn (w : World) (rv : Value) (r : List V) : Prop := ∃ a cap, rv = .slice a r.length cap ∧ r.length ≤ 9223372036854775807 ∧ ∀ i (h : i < r.length), ∃ b off, a = some ⟨b, off, none⟩ ∧ r[i].s.size ≤ 9223372036854775807 ∧
  w.cell? ⟨b, off + i * 4, none⟩ = some (.int .u8 r[i].k) ∧ w.cell? ⟨b, off + i * 4 + 1, none⟩ = some (.int .i64 r[i].i) ∧ w.cell? ⟨b, off + i * 4 + 2, none⟩ = some (.string r[i].s) ∧ w.cell? ⟨b, off + i * 4 + 3, none⟩ = some (.bool r[i].b)
/-- A slice of them. -/
def KeysIn (w : World) (kv : Value) (L : List (List V)) : Prop := ∃ a cap, kv = .slice a L.length cap ∧ L.length ≤ 9223372036854775807 ∧ ∀ i (h : i < L.length), ∃ b off rv, a = some ⟨b, off, none⟩ ∧
  w.cell? ⟨b, off + i, none⟩ = some rv ∧ RowIn w rv L[i]
def V0 : V := ⟨0, 0, ⟨#[]⟩, false⟩
def pickV (r : List V) (c : Nat) : V := if c < r.length ∧ rightB (r.getD c V0) = true then r.getD c V0 else V0
def fewRow (n : Nat) (r : List V) : List V := (List.range n).map (pickV r)
def fewR (n : Nat) (L : List (List V)) : List (List V) := (L.take 40).map (fewRow n)
theorem fewRow_len (n : Nat) (r : List V) : (fewRow n r).length = n := by simp [fewRow]
theorem fewR_all (n : Nat) (L : List (List V)) : ∀ r ∈ fewR n L, r.length = n := fun r hr => by
  obtain ⟨x, _, rfl⟩ := List.mem_map.1 hr
  exact fewRow_len n x
theorem fewR_len (n : Nat) (L : List (List V)) : (fewR n L).length ≤ 40 := by simp [fewR]; omega
section
variable {w w' : World} {rv kv : Value} {r : List V} {L : List (List V)}
theorem RowIn.same (h : RowIn w rv r) (u : Below w.heap.size w w') : RowIn w' rv r := by
  obtain ⟨a, cap, h1, h2, h3⟩ := h
  refine ⟨a, cap, h1, h2, fun i hi => ?_⟩
  obtain ⟨b, off, e, hs, c0, c1, c2, c3⟩ := h3 i hi
  exact ⟨b, off, e, hs, keeper u c0, keeper u c1, keeper u c2, keeper u c3⟩
theorem KeysIn.same (h : KeysIn w kv L) (u : Below w.heap.size w w') : KeysIn w' kv L := by
  obtain ⟨a, cap, h1, h2, h3⟩ := h
  refine ⟨a, cap, h1, h2, fun i hi => ?_⟩
  obtain ⟨b, off, rv, e, c0, c1⟩ := h3 i hi
  exact ⟨b, off, rv, e, keeper u c0, c1.same u⟩
/-- A row of one's own, as a key. -/
theorem RowAt.row {B e : Nat} {v : Value} {l : List V} (h : w.ownsRow B e 4 v l.length (l.flatMap vcells)) (hl : l.length ≤ 1000) : RowAt w v l := by
  obtain ⟨a, cap, hv⟩ := ownsRow_slice h
  refine ⟨a, cap, hv, hl, fun i hi => ?_⟩
  have hc : ∀ j, j < 4 → (l.flatMap vcells)[i * 4 + j]? = (vcells l[i])[j]? := fun j hj => by
    rw [getElem?_flat vcells 4 (fun _ => rfl) l i j hj, List.getElem?_eq_getElem hi]; rfl
  obtain ⟨g, cap0, e0, c0, _⟩ := ownsRow_cell h (hc 0 (by decide))
  obtain ⟨g1, cap1, e1, c1, _⟩ := ownsRow_cell h (hc 1 (by decide))
  obtain ⟨g2, cap2, e2, c2, _⟩ := ownsRow_cell h (hc 2 (by decide))
  obtain ⟨g3, cap3, e3, c3, _⟩ := ownsRow_cell h (hc 3 (by decide))
  rw [hv] at e0
  simp only [Value.slice.injEq] at e0
  obtain ⟨rfl, _, rfl⟩ := e0
  rw [hv] at e1 e2 e3
  simp only [Value.slice.injEq, Option.some.injEq, Addr.mk.injEq] at e1 e2 e3
  obtain ⟨⟨rfl, _⟩, _, _⟩ := e1
  obtain ⟨⟨rfl, _⟩, _, _⟩ := e2
  obtain ⟨⟨rfl, _⟩, _, _⟩ := e3
  exact ⟨g, 0, rfl, by rw [Nat.zero_add]; exact c0, by rw [Nat.zero_add]; exact c1, by rw [Nat.zero_add]; exact c2, by rw [Nat.zero_add]; exact c3⟩
/-- Rows of one's own, as keys. -/
theorem KeysAt.rows {B n : Nat} {v : Value} {vals : List Value} {R : List (List V)} (h : w.ownsRow B 34 1 v R.length vals) (hl : R.length ≤ 1000) (hn : n ≤ 1000) (hR : ∀ r ∈ R, r.length = n)
    (he : ∀ (j : Nat) (hj : j < R.length) (u : Value), vals[j]? = some u → w.ownsRow B 39 4 u n (R[j].flatMap vcells)) : KeysAt w v R := by
  obtain ⟨a, cap, hv⟩ := ownsRow_slice h
  have hlen : vals.length = R.length := by have := h.1; simpa using this
  refine ⟨a, cap, hv, hl, fun i hi => ?_⟩
  have hu : vals[i]? = some (vals[i]'(by omega)) := List.getElem?_eq_getElem (by omega)
  obtain ⟨g, cap0, e0, c0, _⟩ := ownsRow_cell1 h hu
  rw [hv] at e0
  simp only [Value.slice.injEq] at e0
  obtain ⟨rfl, _, rfl⟩ := e0
  have hr := he i hi _ hu
  have hn2 := hR _ (List.getElem_mem hi)
  exact ⟨g, 0, _, rfl, by rw [Nat.zero_add]; exact c0, RowAt.row (B := B) (e := 39) (by rw [hn2]; exact hr) (by omega)⟩
end
theorem set4_heap {w : World} {b T : Nat} {z0 z1 z2 z3 : Value} (h : w.heap[b]? = some (.cells #[z0, z1, z2, z3] T (0, 0))) (v0 v1 v2 v3 : Value) :
    ((((w.setCell ⟨b, 0, none⟩ v0).setCell ⟨b, 1, none⟩ v1).setCell ⟨b, 2, none⟩ v2).setCell ⟨b, 3, none⟩ v3).heap[b]? = some (.cells #[v0, v1, v2, v3] T (0, 0)) := by
  rw [block_setCell (block_setCell (block_setCell (block_setCell h v0) v1) v2) v3]; rfl
theorem set4_upd {S : Nat → Prop} {w0 w : World} {b : Nat} (u : Upd S w0 w) (hb : b < w0.heap.size → S b) (v0 v1 v2 v3 : Value) : Upd S w0 ((((w.setCell ⟨b, 0, none⟩ v0).setCell ⟨b, 1, none⟩ v1).setCell ⟨b, 2, none⟩ v2).setCell ⟨b, 3, none⟩ v3) :=
  (((u.setCell (a := ⟨b, 0, none⟩) v0 hb).setCell (a := ⟨b, 1, none⟩) v1 hb).setCell (a := ⟨b, 2, none⟩) v2 hb).setCell (a := ⟨b, 3, none⟩) v3 hb
theorem Try.info39 : (Try.prog.info? 39).map (fun i => (i.zero, i.size, i.bytes)) = some (some (.agg #[.int .u8 0, .int .i64 0, .string ByteArray.empty, .bool false]), 4, 40) := by kernel_rfl
theorem Try.info34 : (Try.prog.info? 34).map (fun i => (i.zero, i.size, i.bytes)) = some (some (.slice none 0 0), 1, 24) := by kernel_rfl
theorem fewRow_snoc (n c : Nat) (r : List V) (hc : c < n) : ((fewRow n r).take (c + 1)).flatMap vcells = ((fewRow n r).take c).flatMap vcells ++ vcells (pickV r c) := by
  rw [List.take_succ_eq_append_getElem (by rw [fewRow_len]; exact hc), List.flatMap_append]
  simp [fewRow]
end Go.Proofs.Ytifcdfilglbdgaa
