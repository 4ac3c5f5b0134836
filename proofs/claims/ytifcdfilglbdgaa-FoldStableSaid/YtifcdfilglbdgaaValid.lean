/-
  lapidaryref02.valid: of any text it is told one and the same, whatever else there is; nothing is changed.
-/
import Derived.Test.YtifcdfilglbdgaaRow2
namespace Go.Proofs.Ytifcdfilglbdgaa
open Go.RowKit
def byteI (s : ByteArray) (j : Nat) : Int := if h : j < s.size then (s[j].toNat : Int) else 0
theorem byteI_in {s : ByteArray} {j : Nat} (h : j < s.size) : byteI s j = (s[j].toNat : Int) := by unfold byteI; rw [dif_pos h]
def contF (s : ByteArray) (i : Nat) : Nat → Nat → Int → Option Int
  | 0, _, r => some r
  | m + 1, k, r => if byteI s (i + k) < 128 ∨ 192 ≤ byteI s (i + k) then none else contF s i m (k + 1) (r * 64 + (byteI s (i + k) - 128))
def badR (least r : Int) : Bool := decide (r < least) || decide (1114111 < r) || (decide (55296 ≤ r) && decide (r < 57344))
def stepF (s : ByteArray) (i n : Nat) (least r : Int) (next : Nat → Bool) : Bool :=
  if s.size ≤ i + n then false else match contF s i n 1 r with
    | none => false
    | some r => if badR least r = true then false else next (i + n + 1)
def validF (s : ByteArray) : Nat → Nat → Bool
  | 0, _ => true
  | f + 1, i => if i < s.size then (if byteI s i = 0 then false else if byteI s i < 128 then validF s f (i + 1) else
      if 192 ≤ byteI s i ∧ byteI s i < 224 then stepF s i 1 128 (byteI s i - 192) (validF s f) else
      if 224 ≤ byteI s i ∧ byteI s i < 240 then stepF s i 2 2048 (byteI s i - 224) (validF s f) else
      if 240 ≤ byteI s i ∧ byteI s i < 248 then stepF s i 3 65536 (byteI s i - 240) (validF s f) else false) else true
/-- Is a text of whole runes? -/
def validB (s : ByteArray) : Bool := validF s (s.size + 1) 0

set_option maxHeartbeats 16000000 in
set_option maxRecDepth 100000 in
theorem valid_at (s : ByteArray) (hs : s.size ≤ 60) (w : World) : Calls Try.prog 34 #[.string s] w fun r w' => r = .returned (.bool (validB s)) ∧ w = w' := by
  obtain ⟨R, hR⟩ : ∃ R, R = validB s := ⟨_, rfl⟩
  rw [← hR]
  have HR := Lib.hid hR
  clear hR
  go_enter Try.func34, Try.ntmps34
  go_wp2_with fail
  go_loop [3] (fun i => ∃ n f : Nat, n ≤ s.size ∧ i = .int .i64 n ∧ s.size - n < f ∧ Hid (R = validF s f n)) (fun i => s.size - (intOf i).toNat)
  case atStart => exact ⟨0, s.size + 1, Nat.zero_le _, rfl, by omega, HR.out⟩
  case round =>
    clear HR
    obtain ⟨n, f, hn, rfl, hf, HN⟩ := hrel
    obtain ⟨f, rfl⟩ : ∃ g, f = g + 1 := ⟨f - 1, by omega⟩
    by_cases hlt : n < s.size
    · have hst := HN.out
      unfold validF at hst
      rw [if_pos hlt, byteI_in hlt] at hst
      have hb := s[n].toNat_lt
      have hb2 : (s[n].toNat : Int) ≤ 255 := by omega
      have HST := Lib.hid hst
      clear hst hb HN
      by_cases h0 : (s[n].toNat : Int) = 0
      · have e0 : ((s[n].toNat : Int) == 0) = true := by rw [h0]; rfl
        have HV := Lib.hid (HST.out.trans (if_pos h0))
        clear h0 HST
        go_wp2_with fail
        go_ret
        exact ⟨ret_bool HV.out.symm, rfl⟩
      have e0 : ((s[n].toNat : Int) == 0) = false := by rw [beq_eq_false_iff_ne]; exact h0
      have HS1 := Lib.hid (HST.out.trans (if_neg h0))
      clear h0 HST
      by_cases h1 : (s[n].toNat : Int) < 128
      · have HV := Lib.hid (HS1.out.trans (if_pos h1))
        clear HS1
        go_wp2_with fail
        go_round
        case rel => exact ⟨n + 1, f, by omega, by go_num, by omega, HV.out⟩
        case measure => simp [intOf]; omega
      have HS2 := Lib.hid (HS1.out.trans (if_neg h1))
      clear HS1
      by_cases h2 : 192 ≤ (s[n].toNat : Int) ∧ (s[n].toNat : Int) < 224
      · obtain ⟨g1, g2⟩ := h2
        have hv := HS2.out.trans (if_pos ⟨g1, g2⟩)
        have g3 : ¬ (s[n].toNat : Int) < 128 := by omega
        clear HS2
        unfold stepF at hv
        by_cases hz : s.size ≤ n + 1
        · have HV := Lib.hid (hv.trans (if_pos hz))
          clear hv
          have hz' : (s.size : Int) - (n : Int) ≤ 1 := by omega
          go_wp2_with fail
          go_ret
          exact ⟨ret_bool HV.out.symm, rfl⟩
        · have hv2 := hv.trans (if_neg hz)
          clear hv
          have hz' : 1 < (s.size : Int) - (n : Int) := by omega
          obtain ⟨C, hC⟩ : ∃ C, C = contF s n 1 1 ((s[n].toNat : Int) - 192) := ⟨_, rfl⟩
          rw [← hC] at hv2
          have HC := Lib.hid hC; have HV := Lib.hid hv2
          clear hC hv2
          go_wp2_with fail
          go_loop [7, 8] (fun rv kv => ∃ (k : Nat) (r : Int), 1 ≤ k ∧ k ≤ 2 ∧ kv = .int .i64 k ∧ rv = .int .i32 r ∧ 0 ≤ r ∧ ((k = 1 ∧ r ≤ 31) ∨ (k = 2 ∧ r ≤ 2047)) ∧ Hid (C = contF s n (2 - k) k r)) (fun _ kv => 2 - (intOf kv).toNat)
          case atStart => exact ⟨1, _, by omega, by omega, rfl, rfl, by omega, by omega, HC.out⟩
          case round =>
            clear HC
            obtain ⟨k, r, hk1, hk2, rfl, rfl, hr0, hr1, HK⟩ := hrel
            by_cases hk : k ≤ 1
            · have hj : n + k < s.size := by omega
              have hsc := HK.out
              rw [show 2 - k = (1 - k) + 1 from by omega] at hsc
              unfold contF at hsc
              rw [byteI_in hj] at hsc
              have hc := s[n + k].toNat_lt
              have hc2 : (s[n + k].toNat : Int) ≤ 255 := by omega
              have HSC := Lib.hid hsc
              clear hsc hc HK
              by_cases hq : (s[n + k].toNat : Int) < 128 ∨ 192 ≤ (s[n + k].toNat : Int)
              · have hn0 : C = none := HSC.out.trans (if_pos hq)
                have hvv := HV.out
                rw [hn0] at hvv
                have HVV := Lib.hid hvv
                clear hvv hn0
                by_cases hq1 : (s[n + k].toNat : Int) < 128
                · go_wp2_with fail
                  go_ret
                  exact ⟨ret_bool HVV.out.symm, rfl⟩
                · have hq2 : 192 ≤ (s[n + k].toNat : Int) := by omega
                  go_wp2_with fail
                  go_ret
                  exact ⟨ret_bool HVV.out.symm, rfl⟩
              · have HK2 := Lib.hid (HSC.out.trans (if_neg hq))
                have hq1 : ¬ (s[n + k].toNat : Int) < 128 := by omega
                have hq2 : ¬ 192 ≤ (s[n + k].toNat : Int) := by omega
                clear hq HSC
                have hr2 : r ≤ 31 := by omega
                go_wp2_with fail
                go_round
                case rel => exact ⟨k + 1, _, by omega, by omega, by go_num, rfl, by omega, by omega, by rw [show 2 - (k + 1) = 1 - k from by omega]; exact HK2.out⟩
                case measure => simp [intOf]; omega
            · have hkm : k = 2 := by omega
              subst hkm
              have hsc : C = some r := HK.out
              have hvv := HV.out
              rw [hsc] at hvv
              simp only at hvv
              have HVV := Lib.hid hvv
              clear hsc hvv HV HK
              unfold badR at HVV
              have hr2 : r ≤ 2047 := by omega
              by_cases c1 : r < 128
              · have HF := Lib.hid (HVV.out.trans (if_pos (by simp [c1])))
                go_wp2_with fail
                go_ret
                exact ⟨ret_bool HF.out.symm, rfl⟩
              by_cases c2 : 1114111 < r
              · have HF := Lib.hid (HVV.out.trans (if_pos (by simp [c2])))
                go_wp2_with fail
                go_ret
                exact ⟨ret_bool HF.out.symm, rfl⟩
              by_cases c3 : 55296 ≤ r
              · by_cases c4 : r < 57344
                · have HF := Lib.hid (HVV.out.trans (if_pos (by simp [c3, c4])))
                  go_wp2_with fail
                  go_ret
                  exact ⟨ret_bool HF.out.symm, rfl⟩
                · have HF := Lib.hid (HVV.out.trans (if_neg (by simp [c1, c2, c4])))
                  clear HVV
                  go_wp2_with fail
                  go_round
                  case rel => exact ⟨n + 1 + 1, f, by omega, by go_num, by omega, HF.out⟩
                  case measure => simp [intOf]; omega
              · have HF := Lib.hid (HVV.out.trans (if_neg (by simp [c1, c2, c3])))
                clear HVV
                go_wp2_with fail
                go_round
                case rel => exact ⟨n + 1 + 1, f, by omega, by go_num, by omega, HF.out⟩
                case measure => simp [intOf]; omega
      have HS3 := Lib.hid (HS2.out.trans (if_neg h2))
      clear HS2
      by_cases h3 : 224 ≤ (s[n].toNat : Int) ∧ (s[n].toNat : Int) < 240
      · obtain ⟨g1, g2⟩ := h3
        have hv := HS3.out.trans (if_pos ⟨g1, g2⟩)
        have g3 : ¬ (s[n].toNat : Int) < 128 := by omega
        clear HS3
        unfold stepF at hv
        by_cases hz : s.size ≤ n + 2
        · have HV := Lib.hid (hv.trans (if_pos hz))
          clear hv
          have hz' : (s.size : Int) - (n : Int) ≤ 2 := by omega
          go_wp2_with fail
          go_ret
          exact ⟨ret_bool HV.out.symm, rfl⟩
        · have hv2 := hv.trans (if_neg hz)
          clear hv
          have hz' : 2 < (s.size : Int) - (n : Int) := by omega
          obtain ⟨C, hC⟩ : ∃ C, C = contF s n 2 1 ((s[n].toNat : Int) - 224) := ⟨_, rfl⟩
          rw [← hC] at hv2
          have HC := Lib.hid hC; have HV := Lib.hid hv2
          clear hC hv2
          go_wp2_with fail
          go_loop [7, 8] (fun rv kv => ∃ (k : Nat) (r : Int), 1 ≤ k ∧ k ≤ 3 ∧ kv = .int .i64 k ∧ rv = .int .i32 r ∧ 0 ≤ r ∧ ((k = 1 ∧ r ≤ 15) ∨ (k = 2 ∧ r ≤ 1023) ∨ (k = 3 ∧ r ≤ 65535)) ∧ Hid (C = contF s n (3 - k) k r)) (fun _ kv => 3 - (intOf kv).toNat)
          case atStart => exact ⟨1, _, by omega, by omega, rfl, rfl, by omega, by omega, HC.out⟩
          case round =>
            clear HC
            obtain ⟨k, r, hk1, hk2, rfl, rfl, hr0, hr1, HK⟩ := hrel
            by_cases hk : k ≤ 2
            · have hj : n + k < s.size := by omega
              have hsc := HK.out
              rw [show 3 - k = (2 - k) + 1 from by omega] at hsc
              unfold contF at hsc
              rw [byteI_in hj] at hsc
              have hc := s[n + k].toNat_lt
              have hc2 : (s[n + k].toNat : Int) ≤ 255 := by omega
              have HSC := Lib.hid hsc
              clear hsc hc HK
              by_cases hq : (s[n + k].toNat : Int) < 128 ∨ 192 ≤ (s[n + k].toNat : Int)
              · have hn0 : C = none := HSC.out.trans (if_pos hq)
                have hvv := HV.out
                rw [hn0] at hvv
                have HVV := Lib.hid hvv
                clear hvv hn0
                by_cases hq1 : (s[n + k].toNat : Int) < 128
                · go_wp2_with fail
                  go_ret
                  exact ⟨ret_bool HVV.out.symm, rfl⟩
                · have hq2 : 192 ≤ (s[n + k].toNat : Int) := by omega
                  go_wp2_with fail
                  go_ret
                  exact ⟨ret_bool HVV.out.symm, rfl⟩
              · have HK2 := Lib.hid (HSC.out.trans (if_neg hq))
                have hq1 : ¬ (s[n + k].toNat : Int) < 128 := by omega
                have hq2 : ¬ 192 ≤ (s[n + k].toNat : Int) := by omega
                clear hq HSC
                have hr2 : r ≤ 1023 := by omega
                go_wp2_with fail
                go_round
                case rel => exact ⟨k + 1, _, by omega, by omega, by go_num, rfl, by omega, by omega, by rw [show 3 - (k + 1) = 2 - k from by omega]; exact HK2.out⟩
                case measure => simp [intOf]; omega
            · have hkm : k = 3 := by omega
              subst hkm
              have hsc : C = some r := HK.out
              have hvv := HV.out
              rw [hsc] at hvv
              simp only at hvv
              have HVV := Lib.hid hvv
              clear hsc hvv HV HK
              unfold badR at HVV
              have hr2 : r ≤ 65535 := by omega
              by_cases c1 : r < 2048
              · have HF := Lib.hid (HVV.out.trans (if_pos (by simp [c1])))
                go_wp2_with fail
                go_ret
                exact ⟨ret_bool HF.out.symm, rfl⟩
              by_cases c2 : 1114111 < r
              · have HF := Lib.hid (HVV.out.trans (if_pos (by simp [c2])))
                go_wp2_with fail
                go_ret
                exact ⟨ret_bool HF.out.symm, rfl⟩
              by_cases c3 : 55296 ≤ r
              · by_cases c4 : r < 57344
                · have HF := Lib.hid (HVV.out.trans (if_pos (by simp [c3, c4])))
                  go_wp2_with fail
                  go_ret
                  exact ⟨ret_bool HF.out.symm, rfl⟩
                · have HF := Lib.hid (HVV.out.trans (if_neg (by simp [c1, c2, c4])))
                  clear HVV
                  go_wp2_with fail
                  go_round
                  case rel => exact ⟨n + 2 + 1, f, by omega, by go_num, by omega, HF.out⟩
                  case measure => simp [intOf]; omega
              · have HF := Lib.hid (HVV.out.trans (if_neg (by simp [c1, c2, c3])))
                clear HVV
                go_wp2_with fail
                go_round
                case rel => exact ⟨n + 2 + 1, f, by omega, by go_num, by omega, HF.out⟩
                case measure => simp [intOf]; omega
      have HS4 := Lib.hid (HS3.out.trans (if_neg h3))
      clear HS3
      by_cases h4 : 240 ≤ (s[n].toNat : Int) ∧ (s[n].toNat : Int) < 248
      · obtain ⟨g1, g2⟩ := h4
        have hv := HS4.out.trans (if_pos ⟨g1, g2⟩)
        have g3 : ¬ (s[n].toNat : Int) < 128 := by omega
        clear HS4
        unfold stepF at hv
        by_cases hz : s.size ≤ n + 3
        · have HV := Lib.hid (hv.trans (if_pos hz))
          clear hv
          have hz' : (s.size : Int) - (n : Int) ≤ 3 := by omega
          go_wp2_with fail
          go_ret
          exact ⟨ret_bool HV.out.symm, rfl⟩
        · have hv2 := hv.trans (if_neg hz)
          clear hv
          have hz' : 3 < (s.size : Int) - (n : Int) := by omega
          obtain ⟨C, hC⟩ : ∃ C, C = contF s n 3 1 ((s[n].toNat : Int) - 240) := ⟨_, rfl⟩
          rw [← hC] at hv2
          have HC := Lib.hid hC; have HV := Lib.hid hv2
          clear hC hv2
          go_wp2_with fail
          go_loop [7, 8] (fun rv kv => ∃ (k : Nat) (r : Int), 1 ≤ k ∧ k ≤ 4 ∧ kv = .int .i64 k ∧ rv = .int .i32 r ∧ 0 ≤ r ∧ ((k = 1 ∧ r ≤ 7) ∨ (k = 2 ∧ r ≤ 511) ∨ (k = 3 ∧ r ≤ 32767) ∨ (k = 4 ∧ r ≤ 2097151)) ∧ Hid (C = contF s n (4 - k) k r)) (fun _ kv => 4 - (intOf kv).toNat)
          case atStart => exact ⟨1, _, by omega, by omega, rfl, rfl, by omega, by omega, HC.out⟩
          case round =>
            clear HC
            obtain ⟨k, r, hk1, hk2, rfl, rfl, hr0, hr1, HK⟩ := hrel
            by_cases hk : k ≤ 3
            · have hj : n + k < s.size := by omega
              have hsc := HK.out
              rw [show 4 - k = (3 - k) + 1 from by omega] at hsc
              unfold contF at hsc
              rw [byteI_in hj] at hsc
              have hc := s[n + k].toNat_lt
              have hc2 : (s[n + k].toNat : Int) ≤ 255 := by omega
              have HSC := Lib.hid hsc
              clear hsc hc HK
              by_cases hq : (s[n + k].toNat : Int) < 128 ∨ 192 ≤ (s[n + k].toNat : Int)
              · have hn0 : C = none := HSC.out.trans (if_pos hq)
                have hvv := HV.out
                rw [hn0] at hvv
                have HVV := Lib.hid hvv
                clear hvv hn0
                by_cases hq1 : (s[n + k].toNat : Int) < 128
                · go_wp2_with fail
                  go_ret
                  exact ⟨ret_bool HVV.out.symm, rfl⟩
                · have hq2 : 192 ≤ (s[n + k].toNat : Int) := by omega
                  go_wp2_with fail
                  go_ret
                  exact ⟨ret_bool HVV.out.symm, rfl⟩
              · have HK2 := Lib.hid (HSC.out.trans (if_neg hq))
                have hq1 : ¬ (s[n + k].toNat : Int) < 128 := by omega
                have hq2 : ¬ 192 ≤ (s[n + k].toNat : Int) := by omega
                clear hq HSC
                have hr2 : r ≤ 32767 := by omega
                go_wp2_with fail
                go_round
                case rel => exact ⟨k + 1, _, by omega, by omega, by go_num, rfl, by omega, by omega, by rw [show 4 - (k + 1) = 3 - k from by omega]; exact HK2.out⟩
                case measure => simp [intOf]; omega
            · have hkm : k = 4 := by omega
              subst hkm
              have hsc : C = some r := HK.out
              have hvv := HV.out
              rw [hsc] at hvv
              simp only at hvv
              have HVV := Lib.hid hvv
              clear hsc hvv HV HK
              unfold badR at HVV
              have hr2 : r ≤ 2097151 := by omega
              by_cases c1 : r < 65536
              · have HF := Lib.hid (HVV.out.trans (if_pos (by simp [c1])))
                go_wp2_with fail
                go_ret
                exact ⟨ret_bool HF.out.symm, rfl⟩
              by_cases c2 : 1114111 < r
              · have HF := Lib.hid (HVV.out.trans (if_pos (by simp [c2])))
                go_wp2_with fail
                go_ret
                exact ⟨ret_bool HF.out.symm, rfl⟩
              by_cases c3 : 55296 ≤ r
              · by_cases c4 : r < 57344
                · have HF := Lib.hid (HVV.out.trans (if_pos (by simp [c3, c4])))
                  go_wp2_with fail
                  go_ret
                  exact ⟨ret_bool HF.out.symm, rfl⟩
                · have HF := Lib.hid (HVV.out.trans (if_neg (by simp [c1, c2, c4])))
                  clear HVV
                  go_wp2_with fail
                  go_round
                  case rel => exact ⟨n + 3 + 1, f, by omega, by go_num, by omega, HF.out⟩
                  case measure => simp [intOf]; omega
              · have HF := Lib.hid (HVV.out.trans (if_neg (by simp [c1, c2, c3])))
                clear HVV
                go_wp2_with fail
                go_round
                case rel => exact ⟨n + 3 + 1, f, by omega, by go_num, by omega, HF.out⟩
                case measure => simp [intOf]; omega
      have HV := Lib.hid (HS4.out.trans (if_neg h4))
      clear HS4
      have hx : (128 ≤ (s[n].toNat : Int) ∧ (s[n].toNat : Int) < 192) ∨ 248 ≤ (s[n].toNat : Int) := by omega
      clear h2 h3 h4
      rcases hx with ⟨x1, x2⟩ | x1
      · have y1 : ¬ 192 ≤ (s[n].toNat : Int) := by omega
        have y2 : ¬ 224 ≤ (s[n].toNat : Int) := by omega
        have y3 : ¬ 240 ≤ (s[n].toNat : Int) := by omega
        go_wp2_with fail
        go_ret
        exact ⟨ret_bool HV.out.symm, rfl⟩
      · have y1 : ¬ (s[n].toNat : Int) < 224 := by omega
        have y2 : ¬ (s[n].toNat : Int) < 240 := by omega
        have y3 : ¬ (s[n].toNat : Int) < 248 := by omega
        have z1 : 192 ≤ (s[n].toNat : Int) := by omega
        have z2 : 224 ≤ (s[n].toNat : Int) := by omega
        have z3 : 240 ≤ (s[n].toNat : Int) := by omega
        go_wp2_with fail
        go_ret
        exact ⟨ret_bool HV.out.symm, rfl⟩
    · have hnl : n = s.size := by omega
      subst hnl
      have hst := HN.out
      unfold validF at hst
      rw [if_neg hlt] at hst
      have HV := Lib.hid hst
      clear hst
      go_wp2_with fail
      go_ret
      exact ⟨ret_bool HV.out.symm, rfl⟩
end Go.Proofs.Ytifcdfilglbdgaa
