/-
  FoldSorts, the walk: any rows are put in order by their keys, to and fro; keys come back untouched.
-/
import Derived.Test.YtifcdfilglbdgaaStab
import Derived.Test.YtifcdfilglbdgaaRsort
import Derived.Test.YtifcdfilglbdgaaUniq
import Derived.Test.YtifcdfilglbdgaaFew3
import Derived.Test.YtifcdfilglbdgaaAwake
namespace Go.Proofs.Ytifcdfilglbdgaa
open Go.RowKit

theorem sameV_self (v : V) : sameV v v = true := by simp [sameV]
set_option maxHeartbeats 2000000 in
set_option maxRecDepth 100000 in
/-- lapidaryref02.SameRow: of the same values. -/
theorem sameRow_at {w : World} {av bv : Value} {a : List V} (ha : RowAt w av a) (hb : RowAt w bv a) :
    Calls Try.prog 29 #[av, bv] w fun r w' => r = .returned (.bool true) ∧ Below w.heap.size w w' := by
  obtain ⟨aa, ca, rfl, hal, hac⟩ := ha
  obtain ⟨ba, cb, rfl, hbl, hbc⟩ := hb
  have HA := Lib.hid hac; have HB := Lib.hid hbc
  clear hac hbc
  go_enter Try.func29, Try.ntmps29
  go_wp2_with fail
  go_loopw [13] (fun i wr => ∃ n : Nat, n ≤ a.length ∧ i = .int .i64 n ∧ Below w.heap.size w wr) (fun i _ => a.length - (intOf i).toNat)
  case atStart => exact ⟨0, Nat.zero_le _, rfl, Below.refl _ _⟩
  case round =>
    obtain ⟨n, hn, rfl, hB⟩ := hrel
    by_cases hlt : n < a.length
    · obtain ⟨g, off, hg, x0, x1, x2, x3⟩ := HA.out n hlt
      obtain ⟨g2, off2, hg2, y0, y1, y2, y3⟩ := HB.out n hlt
      subst hg hg2
      obtain ⟨x, hx⟩ : ∃ x, x = a[n] := ⟨_, rfl⟩
      rw [← hx] at x0 x1 x2 x3 y0 y1 y2 y3
      clear hx
      have hsm := fun w => rsame_any x.k x.i x.s x.b x.k x.i x.s x.b w
      rw [sameV_self] at hsm
      obtain ⟨xk, xi, xs, xb⟩ := x
      simp only at x0 x1 x2 x3 y0 y1 y2 y3 hsm
      have HSM := Lib.hid hsm
      have x0' := keeper hB x0
      have x1' := keeper hB x1
      have x2' := keeper hB x2
      have x3' := keeper hB x3
      have y0' := keeper hB y0
      have y1' := keeper hB y1
      have y2' := keeper hB y2
      have y3' := keeper hB y3
      clear x0 x1 x2 x3 y0 y1 y2 y3 hsm
      have hi0 : (0 : Int) ≤ (n : Int) := by omega
      have hi1 : (n : Int) < (a.length : Int) := by omega
      have hd0 : Below wr.heap.size wr wr.drew := below_drewN (n := 1)
      go_wp2_with fail
      go_region_held3 (fun z => z.cell? ⟨g, off + n * 4, none⟩ = some (.int .u8 xk) ∧ z.cell? ⟨g, off + n * 4 + 1, none⟩ = some (.int .i64 xi) ∧ z.cell? ⟨g, off + n * 4 + 2, none⟩ = some (.string xs) ∧ z.cell? ⟨g, off + n * 4 + 3, none⟩ = some (.bool xb) ∧ z.cell? ⟨g2, off2 + n * 4, none⟩ = some (.int .u8 xk) ∧ z.cell? ⟨g2, off2 + n * 4 + 1, none⟩ = some (.int .i64 xi) ∧ z.cell? ⟨g2, off2 + n * 4 + 2, none⟩ = some (.string xs) ∧ z.cell? ⟨g2, off2 + n * 4 + 3, none⟩ = some (.bool xb))
        (first | (with_reducible exact ⟨keeper hd1 x0', keeper hd1 x1', keeper hd1 x2', keeper hd1 x3', keeper hd1 y0', keeper hd1 y1', keeper hd1 y2', keeper hd1 y3'⟩) | (with_reducible exact ⟨keeper hd0 x0', keeper hd0 x1', keeper hd0 x2', keeper hd0 x3', keeper hd0 y0', keeper hd0 y1', keeper hd0 y2', keeper hd0 y3'⟩))
        (first | (go_at_call 32; (with_reducible refine (HSM.out _).mono ?_); rintro r w1 ⟨rfl, hk1⟩; have hd1 := below_then hd0 hk1))
      go_wp2_with fail
      go_roundw
      case rel => exact ⟨n + 1, by omega, by go_num, below_then hB hd1⟩
      case measure => simp [intOf]; omega
    · have hnl : n = a.length := by omega
      subst hnl
      go_wp2_with fail
      go_ret
      exact ⟨rfl, hB⟩

set_option maxHeartbeats 2000000 in
set_option maxRecDepth 100000 in
/-- lapidaryref02.SameRows: of the same rows. -/
theorem sameRows_at {w : World} {kv mv : Value} {R : List (List V)} (hk : KeysAt w kv R) (hm : KeysAt w mv R) :
    Calls Try.prog 16 #[kv, mv] w fun r w' => r = .returned (.bool true) ∧ Below w.heap.size w w' := by
  obtain ⟨ka, kc, hkv⟩ : ∃ a c, kv = .slice a R.length c := by obtain ⟨a, c, e, _⟩ := hk; exact ⟨a, c, e⟩
  obtain ⟨ma, mc, hmv⟩ : ∃ a c, mv = .slice a R.length c := by obtain ⟨a, c, e, _⟩ := hm; exact ⟨a, c, e⟩
  have hkl : R.length ≤ 1000 := by obtain ⟨a, c, e, h, _⟩ := hk; exact h
  subst hkv hmv
  obtain ⟨kb, ko, rvf, hcell⟩ := hk.nth
  obtain ⟨mb, mo, svf, hdell⟩ := hm.nth
  have HC := Lib.hid hcell; have HD := Lib.hid hdell
  clear hcell hdell hk hm
  go_enter Try.func16, Try.ntmps16
  go_wp2_with fail
  go_loopw [13] (fun i wr => ∃ n : Nat, n ≤ R.length ∧ i = .int .i64 n ∧ Below w.heap.size w wr) (fun i _ => R.length - (intOf i).toNat)
  case atStart => exact ⟨0, Nat.zero_le _, rfl, Below.refl _ _⟩
  case round =>
    obtain ⟨n, hn, rfl, hB⟩ := hrel
    by_cases hlt : n < R.length
    · obtain ⟨e1, x0, hr⟩ := HC.out n hlt
      obtain ⟨e2, y0, hs⟩ := HD.out n hlt
      subst e1 e2
      have hd0 : Below wr.heap.size wr wr.drew := below_drewN (n := 1)
      have HCALL := Lib.hid (sameRow_at (hr.same (below_then hB hd0)) (hs.same (below_then hB hd0)))
      have x0' := keeper hB x0
      have y0' := keeper hB y0
      have hi0 : (0 : Int) ≤ (n : Int) := by omega
      have hi1 : (n : Int) < (R.length : Int) := by omega
      clear hr hs x0 y0
      go_wp2_with fail
      go_region_held3 (fun z => z.cell? ⟨kb, ko + n, none⟩ = some (rvf n) ∧ z.cell? ⟨mb, mo + n, none⟩ = some (svf n))
        (first | (with_reducible exact ⟨keeper hd1 x0', keeper hd1 y0'⟩) | (with_reducible exact ⟨keeper hd0 x0', keeper hd0 y0'⟩))
        (first | (go_at_call 29; (with_reducible refine HCALL.out.mono ?_); rintro r w1 ⟨rfl, hk1⟩; have hd1 := below_then hd0 hk1))
      go_wp2_with fail
      go_roundw
      case rel => exact ⟨n + 1, by omega, by go_num, below_then hB hd1⟩
      case measure => simp [intOf]; omega
    · have hnl : n = R.length := by omega
      subst hnl
      go_wp2_with fail
      go_ret
      exact ⟨rfl, hB⟩

set_option maxHeartbeats 4000000 in
set_option maxRecDepth 100000 in
theorem foldSorts_any {w : World} {lv dv : Value} {L : List (List V)} {d : List Bool} (hL : KeysIn w lv L) (hd : DescAt w dv d) {n : Int} (hn0 : 0 ≤ n) (_hn : n < 256) :
    Calls Try.prog 4 #[lv, .int .u8 n, dv] w fun e w' => e = .returned (.bool true) ∧ Below w.heap.size w w' := by
  obtain ⟨la, lc, hlv⟩ : ∃ a c, lv = .slice a L.length c := by obtain ⟨a, c, e, _⟩ := hL; exact ⟨a, c, e⟩
  obtain ⟨da, dc, hdv⟩ : ∃ a c, dv = .slice a d.length c := by obtain ⟨a, c, e, _⟩ := hd; exact ⟨a, c, e⟩
  have HL := Lib.hid hL; have HD := Lib.hid hd
  clear hL hd
  obtain ⟨m, hm, hm4⟩ : ∃ m : Nat, n.tmod 4 = m ∧ m ≤ 3 := by
    refine ⟨(n.tmod 4).toNat, ?_, ?_⟩
    · rw [Int.tmod_eq_emod_of_nonneg hn0]; omega
    · rw [Int.tmod_eq_emod_of_nonneg hn0]; omega
  have hfew : ∀ w', Below w.heap.size w w' → Calls Try.prog 10 #[lv, .int .i64 m] w' _ := fun w' hb => few_at (HL.out.same hb) hm4
  have HFEW := Lib.hid hfew
  clear hfew
  subst hlv hdv
  go_enter Try.func4, Try.ntmps4
  go_wp2_with fail
  refine (awake_at w).mono ?_
  rintro e w1 ⟨rfl, b1⟩
  go_wp2_with fail
  refine (HFEW.out w1 b1).mono ?_
  rintro e w2 ⟨kv, rfl, hK, _, b2⟩
  have hB2 := below_then b1 b2
  obtain ⟨ka, kc, hkv⟩ : ∃ a c, kv = .slice a (fewR m L).length c := by obtain ⟨a, c, e, _⟩ := hK; exact ⟨a, c, e⟩
  have HK := Lib.hid hK; have HKV := Lib.hid hkv
  clear hK hkv
  go_wp2_with fail
  refine (HFEW.out w2 hB2).mono ?_
  rintro e w3 ⟨mv, rfl, hM, _, b3⟩
  have hK3 := HK.out.same b3
  have hB3 := below_then hB2 b3
  have hall := fewR_all m L
  have hlen := fewR_len m L
  have hkv := HKV.out
  obtain ⟨F, hF⟩ : ∃ F, F = fewR m L := ⟨_, rfl⟩
  rw [← hF] at hM hK3 hall hlen hkv
  clear hF HFEW HK HKV
  obtain ⟨ma, mc, hmv⟩ : ∃ a c, mv = .slice a F.length c := by obtain ⟨a, c, e, _⟩ := hM; exact ⟨a, c, e⟩
  have hD3 := HD.out.same hB3
  have hs1 := sort_at hM hD3 hall (.inr (stableOk hlen))
  have hs2 := fun w' (hb : Below w3.heap.size w3 w') => refSort_at (hK3.same hb) (hD3.same hb) hall
  have hs3 := fun w' (hb : Below w3.heap.size w3 w') => sameRows_at (hK3.same hb) (hM.same hb)
  have HS1 := Lib.hid hs1; have HS2 := Lib.hid hs2; have HS3 := Lib.hid hs3
  have HUN := Lib.hid (fun (C D : List Int) (h1 : C.Perm (idxs F.length)) (h2 : Srt (ltN F d) C) (h3 : D.Perm (idxs F.length)) (h4 : Srt (ltN F d) D) => srt_unique (ltN_swo hall d) (fun x hx => mem_idxs.1 (h1.mem_iff.1 hx)) (h1.trans h3.symm) h2 h4)
  obtain ⟨kb, ko, rvf, hcell⟩ : ∃ (kb ko : Nat) (rvf : Nat → Value), ∀ i (h : i < F.length), ka = some ⟨kb, ko, none⟩ ∧ w3.cell? ⟨kb, ko + i, none⟩ = some (rvf i) ∧ RowAt w3 (rvf i) F[i] := by rw [hkv] at hK3; exact hK3.nth
  have hl1 : ∀ w', Below w3.heap.size w3 w' → ∀ i (h0 : 0 < F.length) (hi : i < F.length), Calls Try.prog 17 #[rvf 0, rvf i, .slice da d.length dc] w' fun e w'' => e = .returned (.bool (lessR (keyR F[0]) (keyR F[i]) d)) ∧ Below w'.heap.size w' w'' :=
    fun w' hb i h0 hi => foldLess_at ((hcell 0 h0).2.2.same hb) ((hcell i hi).2.2.same hb) (hD3.same hb) ((hall _ (List.getElem_mem hi)).trans (hall _ (List.getElem_mem h0)).symm)
  have hl2 : ∀ w', Below w3.heap.size w3 w' → ∀ i (h0 : 0 < F.length) (hi : i < F.length), Calls Try.prog 18 #[rvf 0, rvf i, .slice da d.length dc] w' fun e w'' => e = .returned (.bool (lessR (keyR F[0]) (keyR F[i]) d)) ∧ Below w'.heap.size w' w'' :=
    fun w' hb i h0 hi => refLess_at ((hcell 0 h0).2.2.same hb) ((hcell i hi).2.2.same hb) (hD3.same hb) ((hall _ (List.getElem_mem hi)).trans (hall _ (List.getElem_mem h0)).symm)
  have HL1 := Lib.hid hl1; have HL2 := Lib.hid hl2
  have HCELL := Lib.hid (fun i (hi : i < F.length) => (⟨(hcell i hi).1, (hcell i hi).2.1⟩ : ka = some ⟨kb, ko, none⟩ ∧ w3.cell? ⟨kb, ko + i, none⟩ = some (rvf i)))
  subst hkv hmv
  clear hs1 hs2 hs3 hl1 hl2 hcell hall hM hK3 hD3
  go_wp2_with fail
  refine HS1.out.mono ?_
  rintro e w4 ⟨v1, C1, rfl, p1, s1, i1, b4⟩
  have HP1 := Lib.hid p1; have HSR1 := Lib.hid s1
  clear p1 s1
  go_wp2_with fail
  refine (HS2.out w4 b4).mono ?_
  rintro e w5 ⟨v2, C2, rfl, p2, s2, i2, b5⟩
  obtain rfl := HUN.out C1 C2 HP1.out HSR1.out p2 s2
  have HSAME := Lib.hid (sameInts_at (i1.same b5) i2)
  have hB5 := below_then b4 b5
  clear p2 s2 i1 i2
  go_wp2_with fail
  refine HSAME.out.mono ?_
  rintro e w6 ⟨rfl, kn, rfl⟩
  have hB6 : Below w3.heap.size w3 (w5.drewN kn) := below_then hB5 below_drewN
  have HS3' := Lib.hid (HS3.out _ hB6)
  obtain ⟨wz, hwz⟩ : ∃ wz, wz = w5.drewN kn := ⟨_, rfl⟩
  rw [← hwz] at hB6 HS3' ⊢
  clear hwz
  go_wp2_with fail
  refine HS3'.out.mono ?_
  rintro e w7 ⟨rfl, b7⟩
  have hB7 := below_then hB6 b7
  go_wp2_with fail
  go_loopw [38] (fun iv wr => ∃ i : Nat, i ≤ F.length ∧ iv = .int .i64 i ∧ Below w3.heap.size w3 wr) (fun iv _ => F.length - (intOf iv).toNat)
  case atStart => exact ⟨0, Nat.zero_le _, rfl, hB7⟩
  case round =>
    clear hB7
    obtain ⟨i, hi, rfl, hA⟩ := hrel
    by_cases hlt : i < F.length
    · have h0 : 0 < F.length := by omega
      obtain ⟨hka, ci0⟩ := HCELL.out i hlt
      obtain ⟨_, c00⟩ := HCELL.out 0 h0
      subst hka
      have ci := keeper hA ci0
      have c0 := keeper hA c00
      rw [Nat.add_zero] at c0
      have hc1 := fun w' hb => HL1.out w' hb i h0 hlt
      have hc2 := fun w' hb => HL2.out w' hb i h0 hlt
      obtain ⟨y, hy⟩ : ∃ y, y = lessR (keyR F[0]) (keyR F[i]) d := ⟨_, rfl⟩
      rw [← hy] at hc1 hc2
      have HC1 := Lib.hid hc1; have HC2 := Lib.hid hc2
      have hi0 : (0 : Int) ≤ (i : Int) := by omega
      have hi1 : (i : Int) < (F.length : Int) := by omega
      have hi2 : (0 : Int) < (F.length : Int) := by omega
      have hd0 : Below wr.heap.size wr wr.drew := below_drewN (n := 1)
      have hA0 := below_then hA hd0
      clear hc1 hc2 hy ci0 c00
      go_wp2_with fail
      go_region_held3 (fun z => z.cell? ⟨kb, ko, none⟩ = some (rvf 0) ∧ z.cell? ⟨kb, ko + i, none⟩ = some (rvf i))
        (first | (with_reducible exact ⟨keeper hd2 c0, keeper hd2 ci⟩) | (with_reducible exact ⟨keeper hd1 c0, keeper hd1 ci⟩) | (with_reducible exact ⟨keeper hd0 c0, keeper hd0 ci⟩))
        (first | (have _h := hd1; go_at_call 18; (with_reducible refine (HC2.out _ (below_then hA hd1)).mono ?_); rintro e w9 ⟨rfl, hk9⟩; have hd2 := below_then hd1 hk9) | (go_at_call 17; (with_reducible refine (HC1.out _ hA0).mono ?_); rintro e w8 ⟨rfl, hk8⟩; have hd1 := below_then hd0 hk8))
      go_wp2_with fail
      go_roundw
      case rel => exact ⟨i + 1, by omega, by go_num, below_then hA hd2⟩
      case measure => simp [intOf]; omega
    · have hin : i = F.length := by omega
      subst hin
      go_wp2_with fail
      go_ret
      exact ⟨rfl, below_then hB3 hA⟩
end Go.Proofs.Ytifcdfilglbdgaa
