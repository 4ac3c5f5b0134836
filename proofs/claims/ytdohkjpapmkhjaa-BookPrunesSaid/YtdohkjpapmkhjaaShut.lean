/-
  THE CLOSE OF A LAW's ROW: a law that answers true and leaves all old memory as it was meets its row, whatever its parameters' types. No function is named. No condition.
-/
import Derived.Test.YtdohkjpapmkhjaaRows
import Derived.WalkKit
import Derived.ProofKit
import Derived.OpenShut
import Derived.Carry
import Derived.Deep.Fields
import Derived.Deep.Slices
namespace Go.Proofs.Ytdohkjpapmkhjaa
open Go.ChangeShapes Go.WideShapes Go.ChangeAt Go.RowKit Go.Deep

theorem trodAll_below {H : Type} {enc : TypeId × Value → H} {P : Program} (hl : laidOutB P = true) {W W' : World} (hb : Below W.heap.size W W') :
    ∀ {ts : List TypeId} {vs : List Value} {ds : List (DataW H)} {ps : List MemPlace}, (∀ t ∈ ts, P.readableRec t = true ∧ t < P.types.size) →
      DataW.TrodAll enc P W 0 (fun _ => true) true ts vs ds ps → (∀ x ∈ ps, x.block < W.heap.size) → DataW.TrodAll enc P W' 0 (fun b => decide (b < W.heap.size)) true ts vs ds ps
  | [], _, _, _, _, h, _ => by
    obtain ⟨rfl, rfl, rfl⟩ := trodAll_nil h
    exact trodAll_mk0
  | t :: ts, _, _, _, hr, h, hlt => by
    obtain ⟨v, vs', d, ds', p, q, rfl, rfl, rfl, h0, r0⟩ := trodAll_cons h
    have ht := hr t (by simp)
    exact trodAll_cons_mk (Below.trod hl ht.1 ht.2 h0 hb (fun x hx => hlt x (by simp [hx])))
      (trodAll_below hl hb (fun u hu => hr u (by simp [hu])) r0 (fun x hx => hlt x (by simp [hx])))

theorem law_post {H : Type} {enc : TypeId × Value → H} {P : Program} {f : Func} {s : ChangeSpec} {t : TypeId} {W W' : World} {args : Array Value} {ds gs : List (DataW H)} {before : List MemPlace}
    (hl : laidOutB P = true) (ht : P.underlying t = some .bool) (hr : f.params.toList.all (fun t => P.readableRec t && decide (t < P.types.size)) = true) (hrt : f.resultTypes = #[t]) (hvs : s.vars = [])
    (hW : DataW.Whole enc P f.params.toList s.vars false W args.toList ds gs before) (hb : Below W.heap.size W W')
    (h1 : (s.fn H (ds ++ gs)).results = [.lit (.bool true)]) (h2 : (s.fn H (ds ++ gs)).args = ds) (h3 : (s.fn H (ds ++ gs)).vars = []) :
    s.post enc P f false true false false W args (.bool true) W' := by
  have hW' := hW
  have hlt := hW.lt
  obtain ⟨p, q, hA, hV, rfl, hfz, hnd⟩ := hW
  refine ⟨ds, gs, _, [], p, [], hW', ?_, ?_, ?_, hb.frame _, fun h => by cases h⟩
  · rw [h1, hrt]
    exact trodAll_cons_mk (shut_bool ht true) trodAll_mk0
  · rw [h2]
    refine trodAll_below hl hb ?_ hA (fun x hx => hlt x (by simp [hx]))
    intro t htm
    have := List.all_eq_true.1 hr t htm
    simp only [Bool.and_eq_true, decide_eq_true_eq] at this
    exact this
  · rw [h3, hvs]
    exact rfl
/-- An address whose cell is read is a plain one. -/
theorem plain_of_cell {w : World} {a : Addr} {u : Value} (h : w.cell? a = some u) : ∃ b off, a = ⟨b, off, none⟩ ∧ b < w.heap.size := by
  obtain ⟨b, off, s⟩ := a
  cases s with
  | none => exact ⟨b, off, rfl, World.block_lt_of_cell? w _ h⟩
  | some q =>
    simp only [World.cell?] at h
    split at h <;> simp at h

/-- A slice's elements, the cells of each. -/
theorem slice_cells {H : Type} {enc : TypeId × Value → H} {P : Program} {W : World} {r : Reach} {base : Nat} {t e : TypeId} {k : Nat} {v : Value} {d : DataW H} {ps : List MemPlace}
    (ht : P.underlying t = some (.slice e)) (hC : P.cellsOf e = k) (hpos : 0 < k)
    (hv : Value.okWide P W r base t v) (h : DataW.Trod enc P W 0 (fun _ => true) true t v d ps) :
    ∃ a len cap, v = .slice a len cap ∧ len ≤ 9223372036854775807 ∧ ∀ i, i < len → ∃ b off, a = some ⟨b, off, none⟩ ∧ b < W.heap.size ∧
      ∃ cs n y, cs.length = k ∧ (∀ j, j < k → W.cell? ⟨b, off + i * k + j, none⟩ = cs[j]?) ∧ DataW.trod enc P W 0 (fun _ => true) true n e cs = some y := by
  obtain ⟨a0, len0, cap0, rfl⟩ := okWide_slice ht hv
  obtain ⟨fuel, hf⟩ := h
  rcases Go.Deep.open_slice ht hf with ⟨h0, _⟩ | ⟨a, len, cap, m, n, D, Pl, h0, _, hl, hm, hmm, _, hi⟩
  · simp only [Value.cells, List.cons.injEq, and_true, Value.slice.injEq] at h0
    obtain ⟨rfl, rfl, rfl⟩ := h0
    exact ⟨none, 0, 0, rfl, by omega, fun i hi => absurd hi (by omega)⟩
  · simp only [Value.cells, List.cons.injEq, and_true, Value.slice.injEq] at h0
    obtain ⟨rfl, rfl, rfl⟩ := h0
    refine ⟨some a, len0, cap0, rfl, ?_, ?_⟩
    · have hm' := hm; unfold maxLen at hm'; omega
    · intro i hil
      simp only [if_true] at hmm
      obtain ⟨cs, hc, hy⟩ := hi i (by omega)
      rw [hC] at hc
      obtain ⟨_, hcl, hat⟩ := World.cells?_some hc
      obtain ⟨cs0, hc0, _⟩ := hi 0 (by omega)
      rw [hC] at hc0
      obtain ⟨_, hcl0, hat0⟩ := World.cells?_some hc0
      have h00 := hat0 0 hpos
      rw [Go.Deep.add_add, List.getElem?_eq_getElem (by omega)] at h00
      simp only [Nat.zero_mul, Nat.add_zero] at h00
      have ha0 : a.add 0 = a := by simp [Addr.add]
      rw [ha0] at h00
      obtain ⟨b, off, rfl, hb⟩ := plain_of_cell h00
      refine ⟨b, off, rfl, hb, cs, n, _, hcl, ?_, hy⟩
      intro j hj
      have := hat j hj
      rw [Addr.add_lit, Addr.add_lit] at this
      exact this

/-- The fields of a struct whose cells are known, one cell each. -/
theorem struct_cells {H : Type} {enc : TypeId × Value → H} {P : Program} {W : World} {e : TypeId} {fs : Array Field} {cs : List Value} {n : Nat} {y : DataW H × List MemPlace}
    (he : P.underlying e = some (.struct fs)) (hone : oneCellFields P fs = true) (hl : cs.length = fs.size)
    (h : DataW.trod enc P W 0 (fun _ => true) true n e cs = some y) (j : Nat) (f : Field) (hj : fs[j]? = some f) :
    ∃ u n' y', cs[j]? = some u ∧ DataW.trod enc P W 0 (fun _ => true) true n' f.type [u] = some y' := by
  obtain ⟨ys, n', _, _, _, hyl, hf⟩ := DataW.trod_struct he h
  obtain ⟨ho, hk⟩ := hone_of hone j f hj
  have hjl : j < fs.size := (Array.getElem?_eq_some_iff.1 hj).1
  have h1 := hf j f hj
  rw [ho, hk] at h1
  have hv : cs[j]? = some (cs[j]'(by omega)) := List.getElem?_eq_getElem (by omega)
  have e1 : (cs.drop j).take 1 = [cs[j]'(by omega)] := by
    rw [List.drop_eq_getElem_cons (by omega)]; rfl
  rw [e1] at h1
  exact ⟨_, n', _, hv, h1.trans (List.getElem?_eq_getElem (by omega))⟩
/-- A byte slice that came in. -/
theorem bytes_of {H : Type} {enc : TypeId × Value → H} {P : Program} {W : World} {r : Reach} {base : Nat} {t e : TypeId} {v : Value} {d : DataW H} {ps : List MemPlace}
    (ht : P.underlying t = some (.slice e)) (he : P.underlying e = some (.int .u8)) (hC : P.cellsOf e = 1)
    (hv : Value.okWide P W r base t v) (h : DataW.Trod enc P W 0 (fun _ => true) true t v d ps) :
    ∃ a len cap, v = .slice a len cap ∧ len ≤ 9223372036854775807 ∧ ∀ i, i < len → ∃ b off d, a = some ⟨b, off, none⟩ ∧ b < W.heap.size ∧ W.cell? ⟨b, off + i, none⟩ = some (.int .u8 d) ∧ 0 ≤ d ∧ d ≤ 255 := by
  obtain ⟨a, len, cap, rfl, hl, hc⟩ := slice_cells ht hC (by decide) hv h
  refine ⟨a, len, cap, rfl, hl, fun i hi => ?_⟩
  obtain ⟨b, off, ha, hb, cs, n, y, hcl, hcell, hy⟩ := hc i hi
  obtain ⟨d0, e0, _, w0⟩ := DataW.trod_int he hy
  subst e0
  have h0 := hcell 0 (by decide)
  rw [Nat.mul_one, Nat.add_zero] at h0
  exact ⟨b, off, d0, ha, hb, h0, (bounds_u8 w0).1, (bounds_u8 w0).2⟩
end Go.Proofs.Ytdohkjpapmkhjaa
