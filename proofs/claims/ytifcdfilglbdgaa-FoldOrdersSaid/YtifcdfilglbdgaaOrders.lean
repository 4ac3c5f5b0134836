/-
  FoldOrders, the walk: the order of keys is one.
-/
import Derived.Test.YtifcdfilglbdgaaFew3
import Derived.Test.YtifcdfilglbdgaaAwake
namespace Go.Proofs.Ytifcdfilglbdgaa
open Go.RowKit

set_option maxHeartbeats 4000000 in
set_option maxRecDepth 100000 in
theorem foldOrders_any {w : World} {lv dv : Value} {L : List (List V)} {d : List Bool} (hL : KeysIn w lv L) (hd : DescAt w dv d) :
    Calls Try.prog 7 #[lv, dv] w fun e w' => e = .returned (.bool true) ∧ Below w.heap.size w w' := by
  obtain ⟨la, lc, hlv⟩ : ∃ a c, lv = .slice a L.length c := by obtain ⟨a, c, e, _⟩ := hL; exact ⟨a, c, e⟩
  obtain ⟨da, dc, hdv⟩ : ∃ a c, dv = .slice a d.length c := by obtain ⟨a, c, e, _⟩ := hd; exact ⟨a, c, e⟩
  have HL := Lib.hid hL; have HD := Lib.hid hd
  clear hL hd
  have hfew : ∀ w', Below w.heap.size w w' → Calls Try.prog 10 #[lv, .int .i64 3] w' _ := fun w' hb => few_at (HL.out.same hb) (by decide : 3 ≤ 3)
  have HFEW := Lib.hid hfew
  clear hfew
  subst hlv hdv
  go_enter Try.func7, Try.ntmps7
  go_wp2_with fail
  refine (awake_at w).mono ?_
  rintro e w1 ⟨rfl, b1⟩
  go_wp2_with fail
  refine (HFEW.out w1 b1).mono ?_
  rintro e w2 ⟨kv, rfl, hK, hform, b2⟩
  have hB2 := below_then b1 b2
  have hall := fewR_all 3 L
  have hlen := fewR_len 3 L
  obtain ⟨F, hF⟩ : ∃ F, F = fewR 3 L := ⟨_, rfl⟩
  rw [← hF] at hK hform hall hlen
  clear hF HFEW
  rcases hform with ⟨rfl, hnil⟩ | ⟨g, cap, rfl, hcap⟩
  · clear hK hall hlen hnil
    go_wp2_with fail
    go_loopw [24] (fun i wr => i = .int .i64 0 ∧ wr = w2) (fun _ _ => 0)
    case atStart => exact ⟨rfl, rfl⟩
    case round =>
      obtain ⟨rfl, rfl⟩ := hrel
      go_wp2_with fail
      go_ret
      exact ⟨rfl, hB2⟩
  · obtain ⟨rvf, hrv⟩ : ∃ rvf : Nat → Value, ∀ i (h : i < F.length), w2.cell? ⟨g, i, none⟩ = some (rvf i) ∧ RowAt w2 (rvf i) F[i] := by
      obtain ⟨a, c, e, _, h⟩ := hK
      simp only [Value.slice.injEq] at e
      obtain ⟨rfl, _, _⟩ := e
      refine ⟨fun i => (w2.cell? ⟨g, i, none⟩).getD (.bool false), fun i hi => ?_⟩
      obtain ⟨b, off, rv, e2, c1, c2⟩ := h i hi
      simp only [Option.some.injEq, Addr.mk.injEq] at e2
      obtain ⟨rfl, rfl, _⟩ := e2
      rw [Nat.zero_add] at c1
      have e3 : (w2.cell? ⟨g, i, none⟩).getD (.bool false) = rv := by rw [c1]; rfl
      show w2.cell? ⟨g, i, none⟩ = some ((w2.cell? ⟨g, i, none⟩).getD (.bool false)) ∧ RowAt w2 ((w2.cell? ⟨g, i, none⟩).getD (.bool false)) F[i]
      rw [e3]
      exact ⟨c1, c2⟩
    obtain ⟨m, hm⟩ : ∃ m, m = min F.length 12 := ⟨_, rfl⟩
    have hless : ∀ w', Below w2.heap.size w2 w' → ∀ i j (hi : i < m) (hj : j < m), Calls Try.prog 17 #[rvf i, rvf j, .slice da d.length dc] w' fun e w'' => e = .returned (.bool (lessR (keyR (F.getD i [])) (keyR (F.getD j [])) d)) ∧ Below w'.heap.size w' w'' := fun w' hb i j hi hj => by
      have hi2 : i < F.length := by omega
      have hj2 : j < F.length := by omega
      have h := foldLess_at ((hrv i hi2).2.same hb) ((hrv j hj2).2.same hb) ((HD.out.same hB2).same hb) ((hall _ (List.getElem_mem hj2)).trans (hall _ (List.getElem_mem hi2)).symm)
      rw [show F.getD i [] = F[i] from by simp [hi2], show F.getD j [] = F[j] from by simp [hj2]]
      exact h
    have hkl : ∀ i, i < m → (keyR (F.getD i [])).length = 3 := fun i hi => by
      have hi2 : i < F.length := by omega
      rw [show F.getD i [] = F[i] from by simp [hi2]]
      show (List.map keyV _).length = 3
      rw [List.length_map]
      exact hall _ (List.getElem_mem hi2)
    have hcell : ∀ i, i < m → w2.cell? ⟨g, i, none⟩ = some (rvf i) := fun i hi => (hrv i (by omega)).1
    obtain ⟨kf, hkf⟩ : ∃ kf : Nat → List K, kf = fun i => keyR (F.getD i []) := ⟨_, rfl⟩
    have hkf' : ∀ i, keyR (F.getD i []) = kf i := fun i => by rw [hkf]
    simp only [hkf'] at hless hkl
    have HLESS := Lib.hid hless; have HKL := Lib.hid hkl; have HCELL := Lib.hid hcell
    have hmc : m ≤ cap := by omega
    clear hless hkl hcell hkf hkf' hrv hK hall
    obtain ⟨n0, hn0⟩ : ∃ n0, n0 = F.length := ⟨_, rfl⟩
    rw [← hn0] at hcap hlen hm
    rw [← hn0]
    clear hn0
    by_cases h12 : n0 ≤ 12
    · obtain rfl : m = n0 := by omega
      have h12' : (m : Int) ≤ 12 := by omega
      have hmx : max (m : Int) 0 = (m : Int) := by omega
      clear hm hmc
      go_wp2_with fail
      go_loopw [24] (fun iv wr => ∃ i : Nat, i ≤ m ∧ iv = .int .i64 i ∧ Below w2.heap.size w2 wr) (fun iv _ => m - (intOf iv).toNat)
      case atStart => exact ⟨0, Nat.zero_le _, rfl, Below.refl _ _⟩
      case round =>
        obtain ⟨i, hi, rfl, hA⟩ := hrel
        by_cases hi2 : i < m
        · have ci := keeper hA (HCELL.out i hi2)
          have hi0 : (0 : Int) ≤ (i : Int) := by omega
          have hi3 : (i : Int) < (m : Int) := by omega
          go_wp2_with fail
          obtain ⟨wo, hwo⟩ : ∃ wo, wo = wr := ⟨_, rfl⟩
          subst hwo
          go_loopw [30] (fun jv wr => ∃ j : Nat, j ≤ m ∧ jv = .int .i64 j ∧ Below w2.heap.size w2 wr) (fun jv _ => m - (intOf jv).toNat)
          case atStart => exact ⟨0, Nat.zero_le _, rfl, hA⟩
          case round =>
            clear hA ci
            obtain ⟨j, hj, rfl, hA⟩ := hrel
            by_cases hj2 : j < m
            · have cj := keeper hA (HCELL.out j hj2)
              have hj0 : (0 : Int) ≤ (j : Int) := by omega
              have hj3 : (j : Int) < (m : Int) := by omega
              have hab := fun w' hb => HLESS.out w' hb i j hi2 hj2
              have hba := fun w' hb => HLESS.out w' hb j i hj2 hi2
              have has := lessR_asymm d ((HKL.out i hi2).trans (HKL.out j hj2).symm)
              obtain ⟨x, hx⟩ : ∃ x, x = lessR (kf i) (kf j) d := ⟨_, rfl⟩
              obtain ⟨y, hy⟩ : ∃ y, y = lessR (kf j) (kf i) d := ⟨_, rfl⟩
              rw [← hx] at hab has
              rw [← hy] at hba has
              have HAB := Lib.hid hab; have HBA := Lib.hid hba; have HAS := Lib.hid has; have HX := Lib.hid hx
              clear hab hba has hx hy
              go_wp2_with fail
              refine (HAB.out _ hA).mono ?_
              rintro e w3 ⟨rfl, hk3⟩
              have hA3 := below_then hA hk3
              cases x with
              | false =>
                go_wp2_with fail
                obtain ⟨wo, hwo⟩ : ∃ wo, wo = w3 := ⟨_, rfl⟩
                subst hwo
                go_loopw [47] (fun kv wr => ∃ k : Nat, k ≤ m ∧ kv = .int .i64 k ∧ Below w2.heap.size w2 wr) (fun kv _ => m - (intOf kv).toNat)
                case atStart => exact ⟨0, Nat.zero_le _, rfl, hA3⟩
                case round =>
                  clear hA3 cj
                  obtain ⟨k, hk, rfl, hA4⟩ := hrel
                  by_cases hk2 : k < m
                  · have ck := keeper hA4 (HCELL.out k hk2)
                    have hk0 : (0 : Int) ≤ (k : Int) := by omega
                    have hk3' : (k : Int) < (m : Int) := by omega
                    go_wp2_with fail
                    go_roundw
                    case rel => exact ⟨k + 1, by omega, by go_num, hA4⟩
                    case measure => simp [intOf]; omega
                  · have hkm : k = m := by omega
                    subst hkm
                    go_wp2_with fail
                    go_roundw
                    case rel => exact ⟨j + 1, by omega, by go_num, hA4⟩
                    case measure => simp [intOf]; omega
              | true =>
                obtain rfl : y = false := HAS.out rfl
                go_wp2_with fail
                refine (HBA.out _ hA3).mono ?_
                rintro e w4 ⟨rfl, hk4⟩
                have hA4 := below_then hA3 hk4
                go_wp2_with fail
                obtain ⟨wo, hwo⟩ : ∃ wo, wo = w4 := ⟨_, rfl⟩
                subst hwo
                go_loopw [47] (fun kv wr => ∃ k : Nat, k ≤ m ∧ kv = .int .i64 k ∧ Below w2.heap.size w2 wr) (fun kv _ => m - (intOf kv).toNat)
                case atStart => exact ⟨0, Nat.zero_le _, rfl, hA4⟩
                case round =>
                  clear hA4 cj hA3
                  obtain ⟨k, hk, rfl, hA5⟩ := hrel
                  by_cases hk2 : k < m
                  · have ck := keeper hA5 (HCELL.out k hk2)
                    have hk0 : (0 : Int) ≤ (k : Int) := by omega
                    have hk3' : (k : Int) < (m : Int) := by omega
                    have hbc := fun w' hb => HLESS.out w' hb j k hj2 hk2
                    have hac := fun w' hb => HLESS.out w' hb i k hi2 hk2
                    have htr := lessR_trans d ((HKL.out i hi2).trans (HKL.out j hj2).symm) ((HKL.out j hj2).trans (HKL.out k hk2).symm) HX.out.symm
                    obtain ⟨y, hy⟩ : ∃ y, y = lessR (kf j) (kf k) d := ⟨_, rfl⟩
                    obtain ⟨z, hz⟩ : ∃ z, z = lessR (kf i) (kf k) d := ⟨_, rfl⟩
                    rw [← hy] at hbc htr
                    rw [← hz] at hac htr
                    have HBC := Lib.hid hbc; have HAC := Lib.hid hac; have HTR := Lib.hid htr
                    clear hbc hac htr hy hz
                    go_wp2_with fail
                    refine (HBC.out _ hA5).mono ?_
                    rintro e w5 ⟨rfl, hk5⟩
                    have hA6 := below_then hA5 hk5
                    cases y with
                    | false =>
                      go_wp2_with fail
                      go_roundw
                      case rel => exact ⟨k + 1, by omega, by go_num, hA6⟩
                      case measure => simp [intOf]; omega
                    | true =>
                      obtain rfl : z = true := HTR.out rfl
                      go_wp2_with fail
                      refine (HAC.out _ hA6).mono ?_
                      rintro e w6 ⟨rfl, hk6⟩
                      go_wp2_with fail
                      go_roundw
                      case rel => exact ⟨k + 1, by omega, by go_num, below_then hA6 hk6⟩
                      case measure => simp [intOf]; omega
                  · have hkm : k = m := by omega
                    subst hkm
                    go_wp2_with fail
                    go_roundw
                    case rel => exact ⟨j + 1, by omega, by go_num, hA5⟩
                    case measure => simp [intOf]; omega
            · have hjm : j = m := by omega
              subst hjm
              go_wp2_with fail
              go_roundw
              case rel => exact ⟨i + 1, by omega, by go_num, hA⟩
              case measure => simp [intOf]; omega
        · have him : i = m := by omega
          subst him
          go_wp2_with fail
          go_ret
          exact ⟨rfl, below_then hB2 hA⟩
    · obtain rfl : m = 12 := by omega
      have h12' : 12 < (n0 : Int) := by omega
      have hmx : max (12 : Int) 0 = 12 := by decide
      clear hm
      go_wp2_with fail
      go_loopw [24] (fun iv wr => ∃ i : Nat, i ≤ 12 ∧ iv = .int .i64 i ∧ Below w2.heap.size w2 wr) (fun iv _ => 12 - (intOf iv).toNat)
      case atStart => exact ⟨0, Nat.zero_le _, rfl, Below.refl _ _⟩
      case round =>
        obtain ⟨i, hi, rfl, hA⟩ := hrel
        by_cases hi2 : i < 12
        · have ci := keeper hA (HCELL.out i hi2)
          have hi0 : (0 : Int) ≤ (i : Int) := by omega
          have hi3 : (i : Int) < (12 : Int) := by omega
          go_wp2_with fail
          obtain ⟨wo, hwo⟩ : ∃ wo, wo = wr := ⟨_, rfl⟩
          subst hwo
          go_loopw [30] (fun jv wr => ∃ j : Nat, j ≤ 12 ∧ jv = .int .i64 j ∧ Below w2.heap.size w2 wr) (fun jv _ => 12 - (intOf jv).toNat)
          case atStart => exact ⟨0, Nat.zero_le _, rfl, hA⟩
          case round =>
            clear hA ci
            obtain ⟨j, hj, rfl, hA⟩ := hrel
            by_cases hj2 : j < 12
            · have cj := keeper hA (HCELL.out j hj2)
              have hj0 : (0 : Int) ≤ (j : Int) := by omega
              have hj3 : (j : Int) < (12 : Int) := by omega
              have hab := fun w' hb => HLESS.out w' hb i j hi2 hj2
              have hba := fun w' hb => HLESS.out w' hb j i hj2 hi2
              have has := lessR_asymm d ((HKL.out i hi2).trans (HKL.out j hj2).symm)
              obtain ⟨x, hx⟩ : ∃ x, x = lessR (kf i) (kf j) d := ⟨_, rfl⟩
              obtain ⟨y, hy⟩ : ∃ y, y = lessR (kf j) (kf i) d := ⟨_, rfl⟩
              rw [← hx] at hab has
              rw [← hy] at hba has
              have HAB := Lib.hid hab; have HBA := Lib.hid hba; have HAS := Lib.hid has; have HX := Lib.hid hx
              clear hab hba has hx hy
              go_wp2_with fail
              refine (HAB.out _ hA).mono ?_
              rintro e w3 ⟨rfl, hk3⟩
              have hA3 := below_then hA hk3
              cases x with
              | false =>
                go_wp2_with fail
                obtain ⟨wo, hwo⟩ : ∃ wo, wo = w3 := ⟨_, rfl⟩
                subst hwo
                go_loopw [47] (fun kv wr => ∃ k : Nat, k ≤ 12 ∧ kv = .int .i64 k ∧ Below w2.heap.size w2 wr) (fun kv _ => 12 - (intOf kv).toNat)
                case atStart => exact ⟨0, Nat.zero_le _, rfl, hA3⟩
                case round =>
                  clear hA3 cj
                  obtain ⟨k, hk, rfl, hA4⟩ := hrel
                  by_cases hk2 : k < 12
                  · have ck := keeper hA4 (HCELL.out k hk2)
                    have hk0 : (0 : Int) ≤ (k : Int) := by omega
                    have hk3' : (k : Int) < (12 : Int) := by omega
                    go_wp2_with fail
                    go_roundw
                    case rel => exact ⟨k + 1, by omega, by go_num, hA4⟩
                    case measure => simp [intOf]; omega
                  · have hkm : k = 12 := by omega
                    subst hkm
                    go_wp2_with fail
                    go_roundw
                    case rel => exact ⟨j + 1, by omega, by go_num, hA4⟩
                    case measure => simp [intOf]; omega
              | true =>
                obtain rfl : y = false := HAS.out rfl
                go_wp2_with fail
                refine (HBA.out _ hA3).mono ?_
                rintro e w4 ⟨rfl, hk4⟩
                have hA4 := below_then hA3 hk4
                go_wp2_with fail
                obtain ⟨wo, hwo⟩ : ∃ wo, wo = w4 := ⟨_, rfl⟩
                subst hwo
                go_loopw [47] (fun kv wr => ∃ k : Nat, k ≤ 12 ∧ kv = .int .i64 k ∧ Below w2.heap.size w2 wr) (fun kv _ => 12 - (intOf kv).toNat)
                case atStart => exact ⟨0, Nat.zero_le _, rfl, hA4⟩
                case round =>
                  clear hA4 cj hA3
                  obtain ⟨k, hk, rfl, hA5⟩ := hrel
                  by_cases hk2 : k < 12
                  · have ck := keeper hA5 (HCELL.out k hk2)
                    have hk0 : (0 : Int) ≤ (k : Int) := by omega
                    have hk3' : (k : Int) < (12 : Int) := by omega
                    have hbc := fun w' hb => HLESS.out w' hb j k hj2 hk2
                    have hac := fun w' hb => HLESS.out w' hb i k hi2 hk2
                    have htr := lessR_trans d ((HKL.out i hi2).trans (HKL.out j hj2).symm) ((HKL.out j hj2).trans (HKL.out k hk2).symm) HX.out.symm
                    obtain ⟨y, hy⟩ : ∃ y, y = lessR (kf j) (kf k) d := ⟨_, rfl⟩
                    obtain ⟨z, hz⟩ : ∃ z, z = lessR (kf i) (kf k) d := ⟨_, rfl⟩
                    rw [← hy] at hbc htr
                    rw [← hz] at hac htr
                    have HBC := Lib.hid hbc; have HAC := Lib.hid hac; have HTR := Lib.hid htr
                    clear hbc hac htr hy hz
                    go_wp2_with fail
                    refine (HBC.out _ hA5).mono ?_
                    rintro e w5 ⟨rfl, hk5⟩
                    have hA6 := below_then hA5 hk5
                    cases y with
                    | false =>
                      go_wp2_with fail
                      go_roundw
                      case rel => exact ⟨k + 1, by omega, by go_num, hA6⟩
                      case measure => simp [intOf]; omega
                    | true =>
                      obtain rfl : z = true := HTR.out rfl
                      go_wp2_with fail
                      refine (HAC.out _ hA6).mono ?_
                      rintro e w6 ⟨rfl, hk6⟩
                      go_wp2_with fail
                      go_roundw
                      case rel => exact ⟨k + 1, by omega, by go_num, below_then hA6 hk6⟩
                      case measure => simp [intOf]; omega
                  · have hkm : k = 12 := by omega
                    subst hkm
                    go_wp2_with fail
                    go_roundw
                    case rel => exact ⟨j + 1, by omega, by go_num, hA5⟩
                    case measure => simp [intOf]; omega
            · have hjm : j = 12 := by omega
              subst hjm
              go_wp2_with fail
              go_roundw
              case rel => exact ⟨i + 1, by omega, by go_num, hA⟩
              case measure => simp [intOf]; omega
        · have him : i = 12 := by omega
          subst him
          go_wp2_with fail
          go_ret
          exact ⟨rfl, below_then hB2 hA⟩
end Go.Proofs.Ytifcdfilglbdgaa
