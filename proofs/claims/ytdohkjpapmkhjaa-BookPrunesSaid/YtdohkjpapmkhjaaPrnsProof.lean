/-
  BookPrunes: what is pruned is what nobody sees any more: behind a pruning everybody who runs sees what he saw: for every input the law returns true and its arguments read as they did. No condition.
-/
import Derived.Test.YtdohkjpapmkhjaaPrns
import Derived.Test.YtdohkjpapmkhjaaShut
namespace Go.Proofs.Ytdohkjpapmkhjaa.bookPrunes
open Go.ChangeShapes Go.WideShapes Go.ChangeAt Go.RowKit Go.Deep

theorem own : ownKnob Try.prog.godebug = none := by kernel_rfl
set_option maxRecDepth 100000 in
theorem script {H : Type} {enc : TypeId × Value → H} {W : World} {base : Nat} {v : Value} {d : DataW H} {ps : List MemPlace} (hv : Value.okWide Try.prog W .any base 117 v) (h : DataW.Trod enc Try.prog W 0 (fun _ => true) true 117 v d ps) :
    ∃ a len cap, v = .slice a len cap ∧ ScriptP W a len := by
  obtain ⟨a, len, cap, rfl, hl, hc⟩ := slice_cells (k := 6) Try.underlying117 (by kernel_rfl) (by decide) hv h
  refine ⟨a, len, cap, rfl, fun i hi => ?_⟩
  obtain ⟨b, off, ha, hb, cs, n, y, hcl, hcell, hy⟩ := hc i hi
  obtain ⟨u0, _, _, k0, t0⟩ := struct_cells Try.underlying119 (by kernel_rfl) hcl hy 0 _ rfl
  obtain ⟨u1, _, _, k1, t1⟩ := struct_cells Try.underlying119 (by kernel_rfl) hcl hy 1 _ rfl
  obtain ⟨u2, _, _, k2, t2⟩ := struct_cells Try.underlying119 (by kernel_rfl) hcl hy 2 _ rfl
  obtain ⟨u3, _, _, k3, t3⟩ := struct_cells Try.underlying119 (by kernel_rfl) hcl hy 3 _ rfl
  obtain ⟨u4, _, _, k4, t4⟩ := struct_cells Try.underlying119 (by kernel_rfl) hcl hy 4 _ rfl
  obtain ⟨u5, _, _, k5, t5⟩ := struct_cells Try.underlying119 (by kernel_rfl) hcl hy 5 _ rfl
  obtain ⟨d0, e0, _, w0⟩ := DataW.trod_int Try.underlying5 t0
  obtain ⟨d1, e1, _, w1⟩ := DataW.trod_int Try.underlying5 t1
  obtain ⟨s2, e2, _, w2⟩ := DataW.trod_string Try.underlying9 t2
  obtain ⟨s3, e3, _, w3⟩ := DataW.trod_string Try.underlying9 t3
  obtain ⟨s4, e4, _, _⟩ := DataW.trod_string Try.underlying9 t4
  have e5 : ∃ ca cl cc, u5 = .slice ca cl cc := by
    rcases DataW.trod_slice Try.underlying101 t5 with ⟨e, _⟩ | ⟨x, l, c, _, _, _, _, e, _⟩
    · simp only [List.cons.injEq, and_true] at e; exact ⟨_, _, _, e⟩
    · simp only [List.cons.injEq, and_true] at e; exact ⟨_, _, _, e⟩
  obtain ⟨ca, cl, cc, rfl⟩ := e5
  simp only [List.cons.injEq, and_true] at e0 e1 e2 e3 e4
  subst e0 e1 e2 e3 e4
  exact ⟨b, off, d0, d1, s2, s3, s4, ca, cl, cc, ha, hb, (hcell 0 (by decide)).trans k0, (hcell 1 (by decide)).trans k1, (hcell 2 (by decide)).trans k2, (hcell 3 (by decide)).trans k3, (hcell 4 (by decide)).trans k4, (hcell 5 (by decide)).trans k5, (bounds_u8 w0).1, (bounds_u8 w0).2, (bounds_u8 w1).1, (bounds_u8 w1).2, w2, w3⟩

set_option maxRecDepth 100000 in
theorem lifted (os : Os) (started : os.Started) (H : Type) (enc : TypeId × Value → H) :
    ReturnsInHanded {} Try.checked os 15 .any (Rows.bookPrunesSpec.pre6 enc Try.prog Try.f15 Rows.bookPrunesRow.domain false) (Rows.bookPrunesSpec.post enc Try.prog Try.f15 false true false false) := by
  refine returnsInHanded_of_change (C := Try.checked) own started (by kernel_rfl) Try.func15
    (ChangeSpec.witness6 (enc := enc) (C := Try.checked) false ⟨#[], #[.slice none 0 0], []⟩ 8 (by kernel_rfl) (by kernel_rfl) (by kernel_rfl) (by kernel_rfl)) ?_
  intro W base args ds gs before hval0 hW hcnd _
  have hval : ∀ (j : Nat) t v, Try.f15.params[j]? = some t → args[j]? = some v → Value.okWide Try.prog W .any base t v := hval0
  have hW' := hW
  obtain ⟨p, q, hA0, hV, rfl, hfz, hnd⟩ := hW
  have hA : DataW.TrodAll enc Try.prog W 0 (fun _ => true) true Try.f15.params.toList args.toList ds p := hA0
  rw [Try.params15] at hA hval
  obtain ⟨v0, vs0, d0, ds0, p0, q0, hargs, rfl, rfl, h0, r0⟩ := trodAll_cons hA
  obtain ⟨rfl, rfl, rfl⟩ := trodAll_nil r0
  obtain rfl : args = #[v0] := by cases args; simp_all
  obtain ⟨rfl, rfl⟩ := trodVars_none hV
  obtain ⟨a0, n0, cap0, rfl, hs0⟩ := script (hval 0 117 v0 rfl rfl) h0
  refine (bookPrunes_any a0 n0 cap0 W hs0).mono fun e W' ⟨he, hg⟩ => ?_
  subst he
  exact ⟨_, rfl, law_post (by kernel_rfl) Try.underlying4 (by kernel_rfl) rfl rfl hW' hg rfl rfl rfl⟩

theorem over : Rows.bookPrunesRow.holds Try.pinned (OpenSpec.ofChange Rows.bookPrunesSpec) :=
  OpenClaim.holds_of_wide 15 Try.f15 rfl rfl rfl rfl rfl rfl rfl ⟨rfl, rfl, rfl, rfl, rfl⟩ rfl rfl rfl rfl rfl (by kernel_rfl) Try.func15 (by kernel_rfl)
    (of_decide_eq_true (by kernel_rfl)) (by unfold Func.isWrapper; first | (rw [if_pos (by decide +kernel)]; kernel_rfl) | (rw [if_neg (by decide +kernel)]; exact ⟨rfl, rfl⟩))
    (fun os started H enc _ => lifted os started H enc)

theorem proved : Rows.BookPrunesSaid := over
#print axioms proved
end Go.Proofs.Ytdohkjpapmkhjaa.bookPrunes
