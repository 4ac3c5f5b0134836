/-
  BookFirst: WHO IS FIRST WINS: of transactions that run at a time, and make or drop the same thing, the first one does, the others are told; if the first one aborts, a later one does: for every input the law returns true and its arguments read as they did. No condition.
-/
import Derived.Test.YtdohkjpapmkhjaaFirst2
import Derived.Test.YtdohkjpapmkhjaaShut
namespace Go.Proofs.Ytdohkjpapmkhjaa.bookFirst
open Go.ChangeShapes Go.WideShapes Go.ChangeAt Go.RowKit Go.Deep

theorem own : ownKnob Try.prog.godebug = none := by kernel_rfl
set_option maxRecDepth 100000 in
theorem bools {H : Type} {enc : TypeId × Value → H} {W : World} {base : Nat} {v : Value} {d : DataW H} {ps : List MemPlace} (hv : Value.okWide Try.prog W .any base 67 v) (h : DataW.Trod enc Try.prog W 0 (fun _ => true) true 67 v d ps) :
    ∃ a len cap, v = .slice a len cap ∧ len ≤ 9223372036854775807 ∧ Bools W a len := by
  obtain ⟨a, len, cap, rfl, hl, hc⟩ := slice_cells (k := 1) Try.underlying67 (by kernel_rfl) (by decide) hv h
  refine ⟨a, len, cap, rfl, hl, fun i hi => ?_⟩
  obtain ⟨b, off, ha, hb, cs, n, y, hcl, hcell, hy⟩ := hc i hi
  obtain ⟨d0, e0, _⟩ := DataW.trod_bool Try.underlying4 hy
  subst e0
  have h0 := hcell 0 (by decide)
  rw [Nat.mul_one, Nat.add_zero] at h0
  exact ⟨b, off, d0, ha, hb, h0⟩

theorem both (n : Int) (h0 : 0 ≤ n) (h1 : n ≤ 255) (dr : Bool) (a1 : Option Addr) (n1 cap1 : Nat) (w : World) (hb : Bools w a1 n1) (hn1 : n1 ≤ 9223372036854775807) :
    Calls Try.prog 13 #[.int .u8 n, .bool dr, .slice a1 n1 cap1] w fun e w' => e = .returned (.bool true) ∧ Below w.heap.size w w' := by
  cases dr with
  | false => exact first_make n h0 h1 a1 n1 cap1 w hb hn1
  | true => exact first_drop n h0 h1 a1 n1 cap1 w hb hn1

set_option maxRecDepth 100000 in
theorem lifted (os : Os) (started : os.Started) (H : Type) (enc : TypeId × Value → H) :
    ReturnsInHanded {} Try.checked os 13 .any (Rows.bookFirstSpec.pre6 enc Try.prog Try.f13 Rows.bookFirstRow.domain false) (Rows.bookFirstSpec.post enc Try.prog Try.f13 false true false false) := by
  refine returnsInHanded_of_change (C := Try.checked) own started (by kernel_rfl) Try.func13
    (ChangeSpec.witness6 (enc := enc) (C := Try.checked) false ⟨#[], #[.int .u8 0, .bool false, .slice none 0 0], []⟩ 8 (by kernel_rfl) (by kernel_rfl) (by kernel_rfl) (by kernel_rfl)) ?_
  intro W base args ds gs before hval0 hW hcnd _
  have hval : ∀ (j : Nat) t v, Try.f13.params[j]? = some t → args[j]? = some v → Value.okWide Try.prog W .any base t v := hval0
  have hW' := hW
  obtain ⟨p, q, hA0, hV, rfl, hfz, hnd⟩ := hW
  have hA : DataW.TrodAll enc Try.prog W 0 (fun _ => true) true Try.f13.params.toList args.toList ds p := hA0
  rw [Try.params13] at hA hval
  obtain ⟨v0, vs0, d0, ds0, p0, q0, hargs, rfl, rfl, h0, r0⟩ := trodAll_cons hA
  obtain ⟨v1, vs1, d1, ds1, p1, q1, rfl, rfl, rfl, h1, r1⟩ := trodAll_cons r0
  obtain ⟨v2, vs2, d2, ds2, p2, q2, rfl, rfl, rfl, h2, r2⟩ := trodAll_cons r1
  obtain ⟨rfl, rfl, rfl⟩ := trodAll_nil r2
  obtain rfl : args = #[v0, v1, v2] := by cases args; simp_all
  obtain ⟨rfl, rfl⟩ := trodVars_none hV
  obtain ⟨a0, rfl, rfl, rfl, w0⟩ := open_int Try.underlying5 (hval 0 5 v0 rfl rfl) h0
  obtain ⟨a1, rfl, rfl, rfl⟩ := open_bool Try.underlying4 (hval 1 4 v1 rfl rfl) h1
  obtain ⟨a2, n2, cap2, rfl, hl2, hb2⟩ := bools (hval 2 67 v2 rfl rfl) h2
  refine (both a0 (bounds_u8 w0).1 (bounds_u8 w0).2 a1 a2 n2 cap2 W hb2 hl2).mono fun e W' ⟨he, hg⟩ => ?_
  subst he
  exact ⟨_, rfl, law_post (by kernel_rfl) Try.underlying4 (by kernel_rfl) rfl rfl hW' hg rfl rfl rfl⟩

theorem over : Rows.bookFirstRow.holds Try.pinned (OpenSpec.ofChange Rows.bookFirstSpec) :=
  OpenClaim.holds_of_wide 13 Try.f13 rfl rfl rfl rfl rfl rfl rfl ⟨rfl, rfl, rfl, rfl, rfl⟩ rfl rfl rfl rfl rfl (by kernel_rfl) Try.func13 (by kernel_rfl)
    (of_decide_eq_true (by kernel_rfl)) (by unfold Func.isWrapper; first | (rw [if_pos (by decide +kernel)]; kernel_rfl) | (rw [if_neg (by decide +kernel)]; exact ⟨rfl, rfl⟩))
    (fun os started H enc _ => lifted os started H enc)

theorem proved : Rows.BookFirstSaid := over
#print axioms proved
end Go.Proofs.Ytdohkjpapmkhjaa.bookFirst
