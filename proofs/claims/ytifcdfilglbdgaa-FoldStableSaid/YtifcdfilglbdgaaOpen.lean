/-
  THE ARGUMENTS THAT CAME IN: keys, bools.
-/
import Derived.Test.YtifcdfilglbdgaaFew3
import Derived.Test.YtifcdfilglbdgaaShut
namespace Go.Proofs.Ytifcdfilglbdgaa
open Go.ChangeShapes Go.WideShapes Go.ChangeAt Go.RowKit Go.Deep

theorem exists_list {α : Type} (Q : Nat → α → Prop) : ∀ (n : Nat), (∀ i, i < n → ∃ x, Q i x) → ∃ l : List α, l.length = n ∧ ∀ i (h : i < l.length), Q i l[i]
  | 0, _ => ⟨[], rfl, fun i h => by cases h⟩
  | n + 1, h => by
    obtain ⟨l, hl, hq⟩ := exists_list Q n (fun i hi => h i (by omega))
    obtain ⟨x, hx⟩ := h n (by omega)
    refine ⟨l ++ [x], by simp [hl], fun i hi => ?_⟩
    by_cases e : i < l.length
    · rw [List.getElem_append_left e]; exact hq i e
    · have : i = n := by simp at hi; omega
      subst this
      rw [List.getElem_append_right (by omega)]
      simpa [hl] using hx
theorem slice_trod {H : Type} {enc : TypeId × Value → H} {P : Program} {W : World} {t e : TypeId} {k fuel : Nat} {cs0 : List Value} {x : DataW H × List MemPlace}
    (ht : P.underlying t = some (.slice e)) (hC : P.cellsOf e = k) (hpos : 0 < k)
    (hf : DataW.trod enc P W 0 (fun _ => true) true fuel t cs0 = some x) :
    ∃ a len cap, cs0 = [.slice a len cap] ∧ len ≤ 9223372036854775807 ∧ ∀ i, i < len → ∃ b off, a = some ⟨b, off, none⟩ ∧ b < W.heap.size ∧
      ∃ cs n y, cs.length = k ∧ (∀ j, j < k → W.cell? ⟨b, off + i * k + j, none⟩ = cs[j]?) ∧ DataW.trod enc P W 0 (fun _ => true) true n e cs = some y := by
  rcases Go.Deep.open_slice ht hf with ⟨h0, _⟩ | ⟨a, len, cap, m, n, D, Pl, h0, _, hl, hm, hmm, _, hi⟩
  · exact ⟨none, 0, 0, h0, by omega, fun i hi => absurd hi (by omega)⟩
  · refine ⟨some a, len, cap, h0, ?_, ?_⟩
    · have hm' := hm; unfold maxLen at hm'; omega
    · intro i hil
      simp only [if_true] at hmm
      obtain ⟨cs, hc, hy⟩ := hi i (by omega)
      rw [hC] at hc
      obtain ⟨_, hcl, hat⟩ := World.cells?_some hc
      obtain ⟨cs0, hc0, _⟩ := hi 0 (by omega)
      rw [hC] at hc0
      obtain ⟨_, hcl0, hat0⟩ := World.cells?_some hc0
      have h00 := hat0 0 hpos
      rw [Go.Deep.add_add, List.getElem?_eq_getElem (by omega)] at h00
      simp only [Nat.zero_mul, Nat.add_zero] at h00
      have ha0 : a.add 0 = a := by simp [Addr.add]
      rw [ha0] at h00
      obtain ⟨b, off, rfl, hb⟩ := plain_of_cell h00
      refine ⟨b, off, rfl, hb, cs, n, _, hcl, ?_, hy⟩
      intro j hj
      have := hat j hj
      rw [Addr.add_lit, Addr.add_lit] at this
      exact this

set_option maxRecDepth 100000 in
theorem row_in {H : Type} {enc : TypeId × Value → H} {W : World} {fuel : Nat} {v : Value} {x : DataW H × List MemPlace} (h : DataW.trod enc Try.prog W 0 (fun _ => true) true fuel 34 [v] = some x) :
    ∃ r, RowIn W v r := by
  obtain ⟨a, len, cap, hv, hl, hc⟩ := slice_trod (k := 4) Try.underlying34 (by kernel_rfl) (by decide) h
  simp only [List.cons.injEq, and_true] at hv
  subst hv
  obtain ⟨r, hr, hq⟩ := exists_list (α := V) (fun i v => ∃ b off, a = some ⟨b, off, none⟩ ∧ v.s.size ≤ 9223372036854775807 ∧
      W.cell? ⟨b, off + i * 4, none⟩ = some (.int .u8 v.k) ∧ W.cell? ⟨b, off + i * 4 + 1, none⟩ = some (.int .i64 v.i) ∧ W.cell? ⟨b, off + i * 4 + 2, none⟩ = some (.string v.s) ∧ W.cell? ⟨b, off + i * 4 + 3, none⟩ = some (.bool v.b)) len (fun i hi => by
    obtain ⟨b, off, ha, hb, cs, n, y, hcl, hcell, hy⟩ := hc i hi
    obtain ⟨u0, _, _, k0, t0⟩ := struct_cells Try.underlying39 (by kernel_rfl) hcl hy 0 _ rfl
    obtain ⟨u1, _, _, k1, t1⟩ := struct_cells Try.underlying39 (by kernel_rfl) hcl hy 1 _ rfl
    obtain ⟨u2, _, _, k2, t2⟩ := struct_cells Try.underlying39 (by kernel_rfl) hcl hy 2 _ rfl
    obtain ⟨u3, _, _, k3, t3⟩ := struct_cells Try.underlying39 (by kernel_rfl) hcl hy 3 _ rfl
    obtain ⟨d0, e0, _⟩ := DataW.trod_int Try.underlying37 t0
    obtain ⟨d1, e1, _⟩ := DataW.trod_int Try.underlying2 t1
    obtain ⟨d2, e2, _, w2⟩ := DataW.trod_string Try.underlying9 t2
    obtain ⟨d3, e3, _⟩ := DataW.trod_bool Try.underlying4 t3
    simp only [List.cons.injEq, and_true] at e0 e1 e2 e3
    subst e0 e1 e2 e3
    exact ⟨⟨d0, d1, d2, d3⟩, b, off, ha, (by unfold maxLen at w2; exact w2), (hcell 0 (by decide)).trans k0, (hcell 1 (by decide)).trans k1, (hcell 2 (by decide)).trans k2, (hcell 3 (by decide)).trans k3⟩)
  exact ⟨r, a, cap, by rw [hr], by omega, fun i hi => hq i hi⟩
set_option maxRecDepth 100000 in
theorem keys_in {H : Type} {enc : TypeId × Value → H} {W : World} {base : Nat} {v : Value} {d : DataW H} {ps : List MemPlace} (hv : Value.okWide Try.prog W .any base 22 v) (h : DataW.Trod enc Try.prog W 0 (fun _ => true) true 22 v d ps) :
    ∃ L, KeysIn W v L := by
  obtain ⟨a, len, cap, rfl, hl, hc⟩ := slice_cells (k := 1) Try.underlying22 (by kernel_rfl) (by decide) hv h
  obtain ⟨L, hL, hq⟩ := exists_list (α := List V) (fun i r => ∃ b off rv, a = some ⟨b, off, none⟩ ∧ W.cell? ⟨b, off + i, none⟩ = some rv ∧ RowIn W rv r) len (fun i hi => by
    obtain ⟨b, off, ha, hb, cs, n, y, hcl, hcell, hy⟩ := hc i hi
    obtain ⟨u, rfl⟩ : ∃ u, cs = [u] := by
      match cs, hcl with
      | [u], _ => exact ⟨u, rfl⟩
    obtain ⟨r, hr⟩ := row_in hy
    have h0 := hcell 0 (by decide)
    rw [Nat.mul_one, Nat.add_zero] at h0
    exact ⟨r, b, off, u, ha, h0, hr⟩)
  exact ⟨L, a, cap, by rw [hL], by omega, fun i hi => hq i hi⟩
set_option maxRecDepth 100000 in
theorem desc_in {H : Type} {enc : TypeId × Value → H} {W : World} {base : Nat} {v : Value} {d : DataW H} {ps : List MemPlace} (hv : Value.okWide Try.prog W .any base 30 v) (h : DataW.Trod enc Try.prog W 0 (fun _ => true) true 30 v d ps) :
    ∃ D, DescAt W v D := by
  obtain ⟨a, len, cap, rfl, hl, hc⟩ := slice_cells (k := 1) Try.underlying30 (by kernel_rfl) (by decide) hv h
  obtain ⟨D, hD, hq⟩ := exists_list (α := Bool) (fun i x => ∃ b off, a = some ⟨b, off, none⟩ ∧ W.cell? ⟨b, off + i, none⟩ = some (.bool x)) len (fun i hi => by
    obtain ⟨b, off, ha, hb, cs, n, y, hcl, hcell, hy⟩ := hc i hi
    obtain ⟨d0, e0, _⟩ := DataW.trod_bool Try.underlying4 hy
    subst e0
    have h0 := hcell 0 (by decide)
    rw [Nat.mul_one, Nat.add_zero] at h0
    exact ⟨d0, b, off, ha, h0⟩)
  exact ⟨D, a, cap, by rw [hD], by omega, fun i hi => hq i hi⟩
end Go.Proofs.Ytifcdfilglbdgaa
