/-
  SnapPlays: behind every script of transactions each snapshot that was taken sees what the document says, of any transaction and any version; who may end it, whether it is dead, and the horizon, too: for every input the law returns true and its arguments read as they did. No condition.
-/
import Derived.Test.YtdohkjpapmkhjaaPlaysTen
import Derived.Test.YtdohkjpapmkhjaaShut
namespace Go.Proofs.Ytdohkjpapmkhjaa.snapPlays
open Go.ChangeShapes Go.WideShapes Go.ChangeAt Go.RowKit Go.Deep

theorem own : ownKnob Try.prog.godebug = none := by kernel_rfl
set_option maxRecDepth 100000 in
theorem script2 {H : Type} {enc : TypeId × Value → H} {W : World} {base : Nat} {v : Value} {d : DataW H} {ps : List MemPlace} (hv : Value.okWide Try.prog W .any base 56 v) (h : DataW.Trod enc Try.prog W 0 (fun _ => true) true 56 v d ps) :
    ∃ a len cap, v = .slice a len cap ∧ len ≤ 9223372036854775807 ∧ Script2 W a len := by
  obtain ⟨a, len, cap, rfl, hl, hc⟩ := slice_cells (k := 2) Try.underlying56 (by kernel_rfl) (by decide) hv h
  refine ⟨a, len, cap, rfl, hl, fun i hi => ?_⟩
  obtain ⟨b, off, ha, hb, cs, n, y, hcl, hcell, hy⟩ := hc i hi
  obtain ⟨u0, _, _, k0, t0⟩ := struct_cells Try.underlying70 (by kernel_rfl) hcl hy 0 _ rfl
  obtain ⟨u1, _, _, k1, t1⟩ := struct_cells Try.underlying70 (by kernel_rfl) hcl hy 1 _ rfl
  obtain ⟨d0, e0, _, w0⟩ := DataW.trod_int Try.underlying5 t0
  obtain ⟨d1, e1, _, w1⟩ := DataW.trod_int Try.underlying23 t1
  simp only [List.cons.injEq, and_true] at e0 e1
  subst e0 e1
  exact ⟨b, off, d0, d1, ha, hb, (hcell 0 (by decide)).trans k0, (hcell 1 (by decide)).trans k1, (bounds_u8 w0).1, (bounds_u8 w0).2, (bounds_u64 w1).1, (bounds_u64 w1).2⟩

set_option maxRecDepth 100000 in
theorem twos {H : Type} {enc : TypeId × Value → H} {W : World} {base : Nat} {v : Value} {d : DataW H} {ps : List MemPlace} (hv : Value.okWide Try.prog W .any base 80 v) (h : DataW.Trod enc Try.prog W 0 (fun _ => true) true 80 v d ps) :
    ∃ a len cap, v = .slice a len cap ∧ len ≤ 9223372036854775807 ∧ Twos W a len := by
  obtain ⟨a, len, cap, rfl, hl, hc⟩ := slice_cells (k := 2) Try.underlying80 (by kernel_rfl) (by decide) hv h
  refine ⟨a, len, cap, rfl, hl, fun i hi => ?_⟩
  obtain ⟨b, off, ha, hb, cs, n, y, hcl, hcell, hy⟩ := hc i hi
  obtain ⟨xs, m, _, _, _, hxl, hx⟩ := DataW.trod_array Try.underlying86 hy
  have hk : Try.prog.cellsOf 23 = 1 := by kernel_rfl
  rw [hk] at hx
  obtain ⟨u0, u1, rfl⟩ : ∃ u0 u1, cs = [u0, u1] := by
    match cs, hcl with
    | [u0, u1], _ => exact ⟨u0, u1, rfl⟩
  have t0 := (hx 0 (by omega)).trans (List.getElem?_eq_getElem (by omega))
  have t1 := (hx 1 (by omega)).trans (List.getElem?_eq_getElem (by omega))
  obtain ⟨d0, e0, _, w0⟩ := DataW.trod_int Try.underlying23 t0
  obtain ⟨d1, e1, _, w1⟩ := DataW.trod_int Try.underlying23 t1
  simp only [Nat.zero_mul, List.drop_zero, List.take_succ_cons, List.take_zero, Nat.one_mul, List.drop_succ_cons, List.cons.injEq, and_true] at e0 e1
  subst e0 e1
  exact ⟨b, off, d0, d1, ha, hb, hcell 0 (by decide), hcell 1 (by decide), (bounds_u64 w0).1, (bounds_u64 w0).2, (bounds_u64 w1).1, (bounds_u64 w1).2⟩


set_option maxRecDepth 100000 in
theorem lifted (os : Os) (started : os.Started) (H : Type) (enc : TypeId × Value → H) :
    ReturnsInHanded {} Try.checked os 11 .any (Rows.snapPlaysSpec.pre6 enc Try.prog Try.f11 Rows.snapPlaysRow.domain false) (Rows.snapPlaysSpec.post enc Try.prog Try.f11 false true false false) := by
  refine returnsInHanded_of_change (C := Try.checked) own started (by kernel_rfl) Try.func11
    (ChangeSpec.witness6 (enc := enc) (C := Try.checked) false ⟨#[], #[.slice none 0 0, .slice none 0 0], []⟩ 8 (by kernel_rfl) (by kernel_rfl) (by kernel_rfl) (by kernel_rfl)) ?_
  intro W base args ds gs before hval0 hW hcnd _
  have hval : ∀ (j : Nat) t v, Try.f11.params[j]? = some t → args[j]? = some v → Value.okWide Try.prog W .any base t v := hval0
  have hW' := hW
  obtain ⟨p, q, hA0, hV, rfl, hfz, hnd⟩ := hW
  have hA : DataW.TrodAll enc Try.prog W 0 (fun _ => true) true Try.f11.params.toList args.toList ds p := hA0
  rw [Try.params11] at hA hval
  obtain ⟨v0, vs0, d0, ds0, p0, q0, hargs, rfl, rfl, h0, r0⟩ := trodAll_cons hA
  obtain ⟨v1, vs1, d1, ds1, p1, q1, rfl, rfl, rfl, h1, r1⟩ := trodAll_cons r0
  obtain ⟨rfl, rfl, rfl⟩ := trodAll_nil r1
  obtain rfl : args = #[v0, v1] := by cases args; simp_all
  obtain ⟨rfl, rfl⟩ := trodVars_none hV
  obtain ⟨a0, n0, cap0, rfl, hl0, hs0⟩ := script2 (hval 0 56 v0 rfl rfl) h0
  obtain ⟨a1, n1, cap1, rfl, hl1, hs1⟩ := twos (hval 1 80 v1 rfl rfl) h1
  refine (snapPlays_any a0 n0 cap0 a1 n1 cap1 W hs0 hl1 hs1 (fun w1 hs => play_any 40 a0 n0 cap0 w1 hl0 (by decide) (by decide) hs)).mono fun e W' ⟨he, hg⟩ => ?_
  subst he
  exact ⟨_, rfl, law_post (by kernel_rfl) Try.underlying4 (by kernel_rfl) rfl rfl hW' hg rfl rfl rfl⟩

theorem over : Rows.snapPlaysRow.holds Try.pinned (OpenSpec.ofChange Rows.snapPlaysSpec) :=
  OpenClaim.holds_of_wide 11 Try.f11 rfl rfl rfl rfl rfl rfl rfl ⟨rfl, rfl, rfl, rfl, rfl⟩ rfl rfl rfl rfl rfl (by kernel_rfl) Try.func11 (by kernel_rfl)
    (of_decide_eq_true (by kernel_rfl)) (by unfold Func.isWrapper; first | (rw [if_pos (by decide +kernel)]; kernel_rfl) | (rw [if_neg (by decide +kernel)]; exact ⟨rfl, rfl⟩))
    (fun os started H enc _ => lifted os started H enc)

theorem proved : Rows.SnapPlaysSaid := over
#print axioms proved
end Go.Proofs.Ytdohkjpapmkhjaa.snapPlays
