/-
  slices.swapRangeCmpFunc: two parts of a row of numbers, of one length, change places.
-/
import Derived.Test.YtifcdfilglbdgaaIns
namespace Go.Proofs.Ytifcdfilglbdgaa
open Go.RowKit

theorem irow_swap2 {w : World} {g n cap : Nat} {A M Q : List Int} {x y : Int} (h : IRow w g n cap (A ++ x :: (M ++ y :: Q))) {p q : Nat} (hp : p = A.length) (hq : q = A.length + 1 + M.length) :
    IRow ((w.setCell ⟨g, p, none⟩ (.int .i64 y)).setCell ⟨g, q, none⟩ (.int .i64 x)).drew g n cap (A ++ y :: (M ++ x :: Q)) := by
  subst hp hq
  have h2 := (h.set A.length y).set (A.length + 1 + M.length) x
  have e : ((A ++ x :: (M ++ y :: Q)).set A.length y).set (A.length + 1 + M.length) x = A ++ y :: (M ++ x :: Q) := by
    rw [List.set_append_right _ _ (by omega), Nat.sub_self, List.set_cons_zero, List.set_append_right _ _ (by omega), show A.length + 1 + M.length - A.length = M.length + 1 from by omega, List.set_cons_succ, List.set_append_right _ _ (by omega), Nat.sub_self, List.set_cons_zero]
  rw [e] at h2
  exact h2.same (below_drewN (n := 1))
theorem getElem?_mid2 {A M Q : List Int} {x y : Int} : (A ++ x :: (M ++ y :: Q))[A.length + 1 + M.length]? = some y := by
  rw [List.getElem?_append_right (by omega), show A.length + 1 + M.length - A.length = M.length + 1 from by omega, List.getElem?_cons_succ]
  simp

set_option maxHeartbeats 4000000 in
set_option maxRecDepth 100000 in
/-- slices.swapRangeCmpFunc. -/
theorem swap_at {w : World} {g n cap a b k : Nat} (f : Value) (hn : n ≤ 1000) {X U Y V Z : List Int} (hrow : IRow w g n cap (X ++ U ++ Y ++ V ++ Z)) (ha : a = X.length) (hb : b = X.length + U.length + Y.length) (hku : U.length = k) (hkv : V.length = k) :
    Calls Try.prog 51 #[.slice (some ⟨g, 0, none⟩) n cap, .int .i64 (a : Int), .int .i64 (b : Int), .int .i64 (k : Int), f] w fun r w' =>
      r = .returned (.tuple #[]) ∧ IRow w' g n cap (X ++ V ++ Y ++ U ++ Z) ∧ Upd (fun b => b = g) w w' := by
  have hl := hrow.len
  simp only [List.length_append] at hl
  have HA := Lib.hid ha; have HB := Lib.hid hb; have HU := Lib.hid hku; have HV := Lib.hid hkv
  have hb2 : b + k ≤ n := by omega
  have ha2 : a + k ≤ b := by omega
  clear ha hb hku hkv hl
  go_enter Try.func51, Try.ntmps51
  go_wp2_with fail
  go_loopw [10] (fun iv wr => ∃ (i : Nat) (U1 U2 V1 V2 : List Int), iv = .int .i64 (i : Int) ∧ i ≤ k ∧ Hid (U = U1 ++ U2) ∧ Hid (V = V1 ++ V2) ∧ Hid (U1.length = i ∧ V1.length = i) ∧ IRow wr g n cap (X ++ V1 ++ U2 ++ Y ++ U1 ++ V2 ++ Z) ∧ Upd (fun b => b = g) w wr) (fun iv _ => k - (intOf iv).toNat)
  case atStart => exact ⟨0, [], U, [], V, rfl, Nat.zero_le _, Lib.hid rfl, Lib.hid rfl, Lib.hid ⟨rfl, rfl⟩, by simpa using hrow, Upd.refl _ _⟩
  case round =>
    clear hrow
    obtain ⟨i, U1, U2, V1, V2, rfl, hi, HU1, HV1, HL, hrow, hP⟩ := hrel
    by_cases hlt : i < k
    · have hu2 : U2 ≠ [] := fun e => by
        have h1 := congrArg List.length HU1.out
        rw [e, List.append_nil, HU.out, HL.out.1] at h1; omega
      have hv2 : V2 ≠ [] := fun e => by
        have h1 := congrArg List.length HV1.out
        rw [e, List.append_nil, HV.out, HL.out.2] at h1; omega
      obtain ⟨u, U3, rfl⟩ := List.exists_cons_of_ne_nil hu2
      obtain ⟨v, V3, rfl⟩ := List.exists_cons_of_ne_nil hv2
      have hrow2 : IRow wr g n cap ((X ++ V1) ++ u :: ((U3 ++ Y ++ U1) ++ v :: (V3 ++ Z))) := by simpa using hrow
      obtain ⟨x, hx⟩ : ∃ x, x = a + i := ⟨_, rfl⟩
      obtain ⟨y, hy⟩ : ∃ y, y = b + i := ⟨_, rfl⟩
      have hxl : x = (X ++ V1).length := by rw [hx, HA.out, List.length_append, HL.out.2]
      have hyl : y = (X ++ V1).length + 1 + (U3 ++ Y ++ U1).length := by
        have h1 := congrArg List.length HU1.out
        have h2 := HB.out; have h3 := HL.out
        simp only [List.length_append, List.length_cons] at h1 ⊢
        omega
      obtain ⟨c0, f0⟩ := hrow2.cell (i := x) (by rw [hxl]; exact getElem?_mid)
      obtain ⟨c1, f1⟩ := hrow2.cell (i := y) (by rw [hyl]; exact getElem?_mid2)
      have hsw := irow_swap2 hrow2 hxl hyl
      have hrow3 : IRow ((wr.setCell ⟨g, x, none⟩ (.int .i64 v)).setCell ⟨g, y, none⟩ (.int .i64 u)).drew g n cap (X ++ (V1 ++ [v]) ++ U3 ++ Y ++ (U1 ++ [u]) ++ V3 ++ Z) := by simpa using hsw
      have hus : Upd (fun b => b = g) wr ((wr.setCell ⟨g, x, none⟩ (.int .i64 v)).setCell ⟨g, y, none⟩ (.int .i64 u)).drew := (((Upd.refl (fun b => b = g) wr).setCell (a := ⟨g, x, none⟩) _ (fun _ => rfl)).setCell (a := ⟨g, y, none⟩) _ (fun _ => rfl)).drew
      have a0 : (i : Int) < (k : Int) := by omega
      have a1 : (0 : Int) ≤ (x : Int) := by omega
      have a2 : (0 : Int) ≤ (y : Int) := by omega
      have a3 : (x : Int) < (n : Int) := by omega
      have a4 : (y : Int) < (n : Int) := by omega
      have n1 : x ≠ y := by omega
      have n2 : y ≠ x := by omega
      have a5 : IntKind.i64.wrap ((a : Int) + (i : Int)) = (x : Int) := by rw [show (a : Int) + (i : Int) = (x : Int) from by omega]; exact IntWalk.i64_in _ (by omega)
      have a6 : IntKind.i64.wrap ((b : Int) + (i : Int)) = (y : Int) := by rw [show (b : Int) + (i : Int) = (y : Int) from by omega]; exact IntWalk.i64_in _ (by omega)
      have HR3 := Lib.hid hrow3
      have HE1 := Lib.hid (show U = (U1 ++ [u]) ++ U3 by rw [HU1.out]; simp)
      have HE2 := Lib.hid (show V = (V1 ++ [v]) ++ V3 by rw [HV1.out]; simp)
      have HE3 := Lib.hid (show (U1 ++ [u]).length = i + 1 ∧ (V1 ++ [v]).length = i + 1 by have := HL.out; simp; exact this)
      clear hrow hrow2 hrow3 hsw hu2 hv2 hxl hyl hx hy HU1 HV1 HL
      go_wp2_with fail
      go_region
      go_wp2_with fail
      go_roundw
      case rel => exact ⟨i + 1, U1 ++ [u], U3, V1 ++ [v], V3, by go_num, by omega, HE1, HE2, HE3, HR3.out, hP.trans hus⟩
      case measure => simp [intOf]; omega
    · have hik : i = k := by omega
      subst hik
      have hu2 : U2 = [] := by
        have h1 := congrArg List.length HU1.out
        rw [HU.out, List.length_append, HL.out.1] at h1
        exact List.eq_nil_of_length_eq_zero (by omega)
      have hv2 : V2 = [] := by
        have h1 := congrArg List.length HV1.out
        rw [HV.out, List.length_append, HL.out.2] at h1
        exact List.eq_nil_of_length_eq_zero (by omega)
      subst hu2 hv2
      have e1 : U1 = U := by rw [HU1.out]; simp
      have e2 : V1 = V := by rw [HV1.out]; simp
      subst e1 e2
      have hrow2 : IRow wr g n cap (X ++ V1 ++ Y ++ U1 ++ Z) := by simpa using hrow
      clear hrow
      go_wp2_with fail
      go_end0
      exact ⟨rfl, hrow2, hP⟩
end Go.Proofs.Ytifcdfilglbdgaa
