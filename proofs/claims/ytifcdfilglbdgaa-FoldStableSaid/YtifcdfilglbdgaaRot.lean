/-
  slices.rotateCmpFunc: two parts of a row of numbers, side by side, change places.
-/
import Derived.Test.YtifcdfilglbdgaaSwap
namespace Go.Proofs.Ytifcdfilglbdgaa
open Go.RowKit

theorem split_at {α : Type} (l : List α) (i : Nat) (h : i ≤ l.length) : ∃ p q, l = p ++ q ∧ p.length = i ∧ q.length = l.length - i :=
  ⟨l.take i, l.drop i, (List.take_append_drop i l).symm, by rw [List.length_take]; omega, by rw [List.length_drop]⟩

set_option maxHeartbeats 4000000 in
set_option maxRecDepth 100000 in
/-- slices.rotateCmpFunc. -/
theorem rotate_at {w : World} {g n cap a m b : Nat} (f : Value) (hn : n ≤ 1000) {X A B Z : List Int} (hrow : IRow w g n cap (X ++ A ++ B ++ Z)) (ha : a = X.length) (hm : m = X.length + A.length) (hb : b = X.length + A.length + B.length) (hA : 0 < A.length) (hB : 0 < B.length) :
    Calls Try.prog 47 #[.slice (some ⟨g, 0, none⟩) n cap, .int .i64 (a : Int), .int .i64 (m : Int), .int .i64 (b : Int), f] w fun r w' =>
      r = .returned (.tuple #[]) ∧ IRow w' g n cap (X ++ (B ++ A) ++ Z) ∧ Upd (fun b => b = g) w w' := by
  have hl := hrow.len
  simp only [List.length_append] at hl
  have hma : (m : Int) - (a : Int) = (A.length : Int) := by omega
  have hbm : (b : Int) - (m : Int) = (B.length : Int) := by omega
  have w1 : IntKind.i64.wrap ((m : Int) - (a : Int)) = (A.length : Int) := by rw [hma]; exact IntWalk.i64_in _ (by omega)
  have w2 : IntKind.i64.wrap ((b : Int) - (m : Int)) = (B.length : Int) := by rw [hbm]; exact IntWalk.i64_in _ (by omega)
  have HM := Lib.hid hm; have HL := Lib.hid hl
  obtain ⟨mx, hmx⟩ : ∃ mx, mx = A.length + B.length := ⟨_, rfl⟩
  have HMX := Lib.hid hmx
  clear ha hb hma hbm hl hm hmx
  go_enter Try.func47, Try.ntmps47
  go_wp2_with fail
  clear w1 w2
  go_loopw [10, 11] (fun iv jv wr => ∃ (i j : Nat) (B1 U V A2 : List Int), iv = .int .i64 (i : Int) ∧ jv = .int .i64 (j : Int) ∧ 0 < i ∧ 0 < j ∧ Hid (U.length = i ∧ V.length = j ∧ m = X.length + B1.length + i ∧ B1 ++ V ++ U ++ A2 = B ++ A) ∧ IRow wr g n cap (X ++ B1 ++ U ++ V ++ A2 ++ Z) ∧ Upd (fun b => b = g) w wr) (fun iv jv _ => (intOf iv).toNat + (intOf jv).toNat)
  case atStart => exact ⟨A.length, B.length, [], A, B, [], rfl, rfl, hA, hB, Lib.hid ⟨rfl, rfl, by simpa using HM.out, by simp⟩, by simpa using hrow, Upd.refl _ _⟩
  case round =>
    clear hrow hA hB
    obtain ⟨i, j, B1, U, V, A2, rfl, rfl, hi, hj, H, hrow, hP⟩ := hrel
    have hl := hrow.len
    simp only [List.length_append] at hl
    have hmi : m + j ≤ n ∧ i ≤ m := by have := H.out; omega
    obtain ⟨mi, hmie⟩ : ∃ mi, mi = m - i := ⟨_, rfl⟩
    have hmx : mi = (X ++ B1).length := by have := H.out; simp only [List.length_append]; omega
    have a0 : IntKind.i64.wrap ((m : Int) - (i : Int)) = (mi : Int) := by rw [show (m : Int) - (i : Int) = (mi : Int) from by omega]; exact IntWalk.i64_in _ (by omega)
    clear hl
    rcases Nat.lt_trichotomy i j with hij | hij | hij
    · have b0 : ¬ (i : Int) = (j : Int) := by omega
      have b1 : ¬ (j : Int) < (i : Int) := by omega
      have b2 : ¬ (i : Int) > (j : Int) := by omega
      obtain ⟨V1, V2, hV, hV1, hV2⟩ := split_at V (j - i) (by rw [H.out.2.1]; omega)
      subst hV
      obtain ⟨x, hx⟩ : ∃ x, x = m + j - i := ⟨_, rfl⟩
      have a1 : IntKind.i64.wrap ((m : Int) + (j : Int)) = (m : Int) + (j : Int) := IntWalk.i64_in _ (by omega)
      have a2 : IntKind.i64.wrap ((m : Int) + (j : Int) - (i : Int)) = (x : Int) := by rw [show (m : Int) + (j : Int) - (i : Int) = (x : Int) from by omega]; exact IntWalk.i64_in _ (by omega)
      obtain ⟨y, hy⟩ : ∃ y, y = j - i := ⟨_, rfl⟩
      have a3 : IntKind.i64.wrap ((j : Int) - (i : Int)) = (y : Int) := by rw [show (j : Int) - (i : Int) = (y : Int) from by omega]; exact IntWalk.i64_in _ (by omega)
      have hsw := swap_at (a := mi) (b := x) (k := i) f hn (X := X ++ B1) (U := U) (Y := V1) (V := V2) (Z := A2 ++ Z) (by simpa using hrow) hmx (by have := H.out; simp only [List.length_append] at this ⊢; omega) H.out.1 (by have := H.out.2.1; rw [List.length_append] at this; omega)
      have hnew : (V2.length = i ∧ V1.length = y ∧ m = X.length + B1.length + i ∧ B1 ++ V1 ++ V2 ++ (U ++ A2) = B ++ A) := by
        obtain ⟨h1, h2, h3, h4⟩ := H.out
        rw [List.length_append] at h2
        exact ⟨by omega, by omega, h3, by rw [← h4]; simp⟩
      have HN := Lib.hid hnew; have HSW := Lib.hid hsw
      have HY := Lib.hid hy
      clear hsw hnew hrow hV1 hV2 H hmx hmie hx hy
      go_wp2_with fail
      (with_reducible refine HSW.out.mono ?_)
      rintro r wz ⟨rfl, hrow, hU⟩
      go_wp2_with fail
      go_roundw
      case rel => exact ⟨i, y, B1, V2, V1, U ++ A2, rfl, rfl, hi, by have := HY.out; omega, HN, by simpa using hrow, hP.trans hU⟩
      case measure => have := HY.out; simp [intOf]; omega
    · subst hij
      have hsw := swap_at (a := mi) (b := m) (k := i) f hn (X := X ++ B1) (U := U) (Y := []) (V := V) (Z := A2 ++ Z) (by simpa using hrow) hmx (by have := H.out; simp only [List.length_append, List.length_nil] at this ⊢; omega) H.out.1 H.out.2.1
      have HSW := Lib.hid hsw
      clear hsw hrow hmx hmie
      go_wp2_with fail
      (with_reducible refine HSW.out.mono ?_)
      rintro r wz ⟨rfl, hrow, hU⟩
      go_wp2_with fail
      go_end0
      exact ⟨rfl, by rw [← H.out.2.2.2]; simpa using hrow, hP.trans hU⟩
    · have b0 : ¬ (i : Int) = (j : Int) := by omega
      have b1 : (j : Int) < (i : Int) := by omega
      have b2 : (i : Int) > (j : Int) := by omega
      obtain ⟨U1, U2, hU, hU1, hU2⟩ := split_at U j (by rw [H.out.1]; omega)
      subst hU
      obtain ⟨y, hy⟩ : ∃ y, y = i - j := ⟨_, rfl⟩
      have a3 : IntKind.i64.wrap ((i : Int) - (j : Int)) = (y : Int) := by rw [show (i : Int) - (j : Int) = (y : Int) from by omega]; exact IntWalk.i64_in _ (by omega)
      have hsw := swap_at (a := mi) (b := m) (k := j) f hn (X := X ++ B1) (U := U1) (Y := U2) (V := V) (Z := A2 ++ Z) (by simpa using hrow) hmx (by have := H.out; simp only [List.length_append] at this ⊢; omega) hU1 H.out.2.1
      have hnew : (U2.length = y ∧ U1.length = j ∧ m = X.length + (B1 ++ V).length + y ∧ (B1 ++ V) ++ U1 ++ U2 ++ A2 = B ++ A) := by
        obtain ⟨h1, h2, h3, h4⟩ := H.out
        rw [List.length_append] at h1
        refine ⟨by omega, by omega, by rw [List.length_append]; omega, by rw [← h4]; simp⟩
      have HN := Lib.hid hnew; have HSW := Lib.hid hsw
      have HY := Lib.hid hy
      clear hsw hnew hrow hU1 hU2 H hmx hmie hy
      go_wp2_with fail
      (with_reducible refine HSW.out.mono ?_)
      rintro r wz ⟨rfl, hrow, hU⟩
      go_wp2_with fail
      go_roundw
      case rel => exact ⟨y, j, B1 ++ V, U2, U1, A2, rfl, rfl, by have := HY.out; omega, hj, HN, by simpa using hrow, hP.trans hU⟩
      case measure => have := HY.out; simp [intOf]; omega
end Go.Proofs.Ytifcdfilglbdgaa
