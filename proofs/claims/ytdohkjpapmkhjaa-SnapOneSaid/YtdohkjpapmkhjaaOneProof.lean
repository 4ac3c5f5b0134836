/-
  SnapOne: of a row's versions, each ended by who made the next one, a snapshot sees one at most, whatever has become of those: for every input the law returns true and its arguments read as they did. No condition.
-/
import Derived.Test.YtdohkjpapmkhjaaOne
import Derived.Test.YtdohkjpapmkhjaaShut
namespace Go.Proofs.Ytdohkjpapmkhjaa.snapOne
open Go.ChangeShapes Go.WideShapes Go.ChangeAt Go.RowKit Go.Deep

theorem own : ownKnob Try.prog.godebug = none := by kernel_rfl
set_option maxRecDepth 100000 in
theorem script2 {H : Type} {enc : TypeId × Value → H} {W : World} {base : Nat} {v : Value} {d : DataW H} {ps : List MemPlace} (hv : Value.okWide Try.prog W .any base 56 v) (h : DataW.Trod enc Try.prog W 0 (fun _ => true) true 56 v d ps) :
    ∃ a len cap, v = .slice a len cap ∧ len ≤ 9223372036854775807 ∧ Script2 W a len := by
  obtain ⟨a, len, cap, rfl, hl, hc⟩ := slice_cells (k := 2) Try.underlying56 (by kernel_rfl) (by decide) hv h
  refine ⟨a, len, cap, rfl, hl, fun i hi => ?_⟩
  obtain ⟨b, off, ha, hb, cs, n, y, hcl, hcell, hy⟩ := hc i hi
  obtain ⟨u0, _, _, k0, t0⟩ := struct_cells Try.underlying70 (by kernel_rfl) hcl hy 0 _ rfl
  obtain ⟨u1, _, _, k1, t1⟩ := struct_cells Try.underlying70 (by kernel_rfl) hcl hy 1 _ rfl
  obtain ⟨d0, e0, _, w0⟩ := DataW.trod_int Try.underlying5 t0
  obtain ⟨d1, e1, _, w1⟩ := DataW.trod_int Try.underlying23 t1
  simp only [List.cons.injEq, and_true] at e0 e1
  subst e0 e1
  exact ⟨b, off, d0, d1, ha, hb, (hcell 0 (by decide)).trans k0, (hcell 1 (by decide)).trans k1, (bounds_u8 w0).1, (bounds_u8 w0).2, (bounds_u64 w1).1, (bounds_u64 w1).2⟩


set_option maxRecDepth 100000 in
theorem lifted (os : Os) (started : os.Started) (H : Type) (enc : TypeId × Value → H) :
    ReturnsInHanded {} Try.checked os 8 .any (Rows.snapOneSpec.pre6 enc Try.prog Try.f8 Rows.snapOneRow.domain false) (Rows.snapOneSpec.post enc Try.prog Try.f8 false true false false) := by
  refine returnsInHanded_of_change (C := Try.checked) own started (by kernel_rfl) Try.func8
    (ChangeSpec.witness6 (enc := enc) (C := Try.checked) false ⟨#[], #[.slice none 0 0, .slice none 0 0], []⟩ 8 (by kernel_rfl) (by kernel_rfl) (by kernel_rfl) (by kernel_rfl)) ?_
  intro W base args ds gs before hval0 hW hcnd _
  have hval : ∀ (j : Nat) t v, Try.f8.params[j]? = some t → args[j]? = some v → Value.okWide Try.prog W .any base t v := hval0
  have hW' := hW
  obtain ⟨p, q, hA0, hV, rfl, hfz, hnd⟩ := hW
  have hA : DataW.TrodAll enc Try.prog W 0 (fun _ => true) true Try.f8.params.toList args.toList ds p := hA0
  rw [Try.params8] at hA hval
  obtain ⟨v0, vs0, d0, ds0, p0, q0, hargs, rfl, rfl, h0, r0⟩ := trodAll_cons hA
  obtain ⟨v1, vs1, d1, ds1, p1, q1, rfl, rfl, rfl, h1, r1⟩ := trodAll_cons r0
  obtain ⟨rfl, rfl, rfl⟩ := trodAll_nil r1
  obtain rfl : args = #[v0, v1] := by cases args; simp_all
  obtain ⟨rfl, rfl⟩ := trodVars_none hV
  obtain ⟨a0, n0, cap0, rfl, hl0, hs0⟩ := script2 (hval 0 56 v0 rfl rfl) h0
  obtain ⟨a1, n1, cap1, rfl, hl1, hs1⟩ := bytes_of Try.underlying50 Try.underlying5 (by kernel_rfl) (hval 1 50 v1 rfl rfl) h1
  refine (snapOne_any a0 n0 cap0 a1 n1 cap1 W hs0 hl1 hs1 (fun w1 hs => play_any 40 a0 n0 cap0 w1 hl0 (by decide) (by decide) hs)).mono fun e W' ⟨he, hg⟩ => ?_
  subst he
  exact ⟨_, rfl, law_post (by kernel_rfl) Try.underlying4 (by kernel_rfl) rfl rfl hW' hg rfl rfl rfl⟩

theorem over : Rows.snapOneRow.holds Try.pinned (OpenSpec.ofChange Rows.snapOneSpec) :=
  OpenClaim.holds_of_wide 8 Try.f8 rfl rfl rfl rfl rfl rfl rfl ⟨rfl, rfl, rfl, rfl, rfl⟩ rfl rfl rfl rfl rfl (by kernel_rfl) Try.func8 (by kernel_rfl)
    (of_decide_eq_true (by kernel_rfl)) (by unfold Func.isWrapper; first | (rw [if_pos (by decide +kernel)]; kernel_rfl) | (rw [if_neg (by decide +kernel)]; exact ⟨rfl, rfl⟩))
    (fun os started H enc _ => lifted os started H enc)

theorem proved : Rows.SnapOneSaid := over
#print axioms proved
end Go.Proofs.Ytdohkjpapmkhjaa.snapOne
