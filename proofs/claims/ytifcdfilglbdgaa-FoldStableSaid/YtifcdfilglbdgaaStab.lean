/-
  slices.stableCmpFunc: of twenty to forty numbers.
-/
import Derived.Test.YtifcdfilglbdgaaSym3
import Derived.Test.YtifcdfilglbdgaaSort
namespace Go.Proofs.Ytifcdfilglbdgaa
open Go.RowKit

set_option maxHeartbeats 4000000 in
set_option maxRecDepth 100000 in
theorem stableOk_mid {n : Nat} (hn1 : 20 ≤ n) (hn2 : n ≤ 40) : StableOk n := by
  intro B w0 p q g cap lt ok hs hc hg w hB S hrow hasc hok
  have hl := hrow.len
  have hBw : B ≤ w.heap.size := Nat.le_trans hg (Nat.le_of_lt (World.ownsRow.lt hrow g rfl).2)
  have hub : ∀ wr, Upd (fun b => b = g) w wr → Below B w0 wr := fun wr u => hB.trans (u.below hBw (fun b hb e => by omega))
  obtain ⟨S1, S2, rfl, hl1, hl2⟩ := split_at S 20 (by omega)
  have hl2' : S2.length = n - 20 := by omega
  have hasc' := List.pairwise_append.1 hasc
  have hi1 : ∀ wr, Upd (fun b => b = g) w wr → IRow wr g n cap (S1 ++ S2) → Calls Try.prog 39 #[.slice (some ⟨g, 0, none⟩) n cap, .int .i64 0, .int .i64 20, .func (.func 28) #[] #[.pointer (some ⟨p, 0, none⟩), .pointer (some ⟨q, 0, none⟩)]] wr fun r w' =>
      r = .returned (.tuple #[]) ∧ ∃ C, C.Perm S1 ∧ Srt lt C ∧ IRow w' g n cap (C ++ S2) ∧ Upd (fun b => b = g) w w' := fun wr u hr => by
    have h := ins_at hs hc hg (by omega : n ≤ 1000) (hub wr u) (P := []) (S := S1) (Z := S2) (by simpa using hr) hasc'.1 (fun x hx => hok x (by simp [hx]))
    simp only [List.length_nil, hl1, List.nil_append] at h
    exact (show Calls Try.prog 39 #[.slice (some ⟨g, 0, none⟩) n cap, .int .i64 0, .int .i64 20, .func (.func 28) #[] #[.pointer (some ⟨p, 0, none⟩), .pointer (some ⟨q, 0, none⟩)]] wr _ from h).mono fun r w' ⟨h1, C, h2, h3, h4, h5⟩ => ⟨h1, C, h2, h3, h4, u.trans h5⟩
  have hi2 : ∀ (z : Int), z = (n : Int) → ∀ wr C1, Upd (fun b => b = g) w wr → C1.length = 20 → IRow wr g n cap (C1 ++ S2) → Calls Try.prog 39 #[.slice (some ⟨g, 0, none⟩) n cap, .int .i64 20, .int .i64 z, .func (.func 28) #[] #[.pointer (some ⟨p, 0, none⟩), .pointer (some ⟨q, 0, none⟩)]] wr fun r w' =>
      r = .returned (.tuple #[]) ∧ ∃ C, C.Perm S2 ∧ Srt lt C ∧ IRow w' g n cap (C1 ++ C) ∧ Upd (fun b => b = g) w w' := fun z hz wr C1 u hcl hr => by
    subst hz
    have h := ins_at hs hc hg (by omega : n ≤ 1000) (hub wr u) (P := C1) (S := S2) (Z := []) (by simpa using hr) hasc'.2.1 (fun x hx => hok x (by simp [hx]))
    rw [hcl, show ((20 : Nat) : Int) + (S2.length : Int) = (n : Int) from by omega] at h
    simp only [List.append_nil] at h
    exact (show Calls Try.prog 39 #[.slice (some ⟨g, 0, none⟩) n cap, .int .i64 20, .int .i64 n, .func (.func 28) #[] #[.pointer (some ⟨p, 0, none⟩), .pointer (some ⟨q, 0, none⟩)]] wr _ from h).mono fun r w' ⟨h1, C, h2, h3, h4, h5⟩ => ⟨h1, C, h2, h3, h4, u.trans h5⟩
  have hi3 : ∀ (z : Int), z = (n : Int) → ∀ wr C, Upd (fun b => b = g) w wr → C.length = n → IRow wr g n cap C → Calls Try.prog 39 #[.slice (some ⟨g, 0, none⟩) n cap, .int .i64 z, .int .i64 n, .func (.func 28) #[] #[.pointer (some ⟨p, 0, none⟩), .pointer (some ⟨q, 0, none⟩)]] wr fun r w' =>
      r = .returned (.tuple #[]) ∧ IRow w' g n cap C ∧ Upd (fun b => b = g) w w' := fun z hz wr C u hcl hr => by
    subst hz
    have h := ins_at hs hc hg (by omega : n ≤ 1000) (hub wr u) (P := C) (S := []) (Z := []) (by simpa using hr) List.Pairwise.nil (fun x hx => by cases hx)
    rw [hcl, show (n : Int) + (([] : List Int).length : Int) = (n : Int) from by simp] at h
    refine h.mono fun r w' ⟨h1, D, h2, h3, h4, h5⟩ => ⟨h1, ?_, u.trans h5⟩
    obtain rfl : D = [] := h2.eq_nil
    simpa using h4
  have hm : 20 < n → ∀ (z : Int), z = (n : Int) → ∀ wr C1 C2, Upd (fun b => b = g) w wr → C1.Perm S1 → C2.Perm S2 → Srt lt C1 → Srt lt C2 → IRow wr g n cap (C1 ++ C2) → Calls Try.prog 40 #[.slice (some ⟨g, 0, none⟩) n cap, .int .i64 0, .int .i64 20, .int .i64 z, .func (.func 28) #[] #[.pointer (some ⟨p, 0, none⟩), .pointer (some ⟨q, 0, none⟩)]] wr fun r w' =>
      r = .returned (.tuple #[]) ∧ ∃ C, C.Perm (S1 ++ S2) ∧ Srt lt C ∧ IRow w' g n cap C ∧ Upd (fun b => b = g) w w' := fun hgt z hz wr C1 C2 u p1 p2 s1 s2 hr => by
    subst hz
    have l1 := p1.length_eq
    have l2 := p2.length_eq
    have h := merge_at 40 hs hc hg (by omega : n ≤ 1000) (hub wr u) (X := []) (L := C1) (R := C2) (Z := []) (a := 0) (m := 20) (b := n) (by simpa using hr) rfl (by simp; omega) (by simp; omega) (by omega) (by omega) (by omega) s1 s2
      (fun x hx y hy => hasc'.2.2 x (p1.mem_iff.1 hx) y (p2.mem_iff.1 hy)) (fun x hx => hok x (by
        rcases List.mem_append.1 hx with hx | hx
        · exact List.mem_append.2 (.inl (p1.mem_iff.1 hx))
        · exact List.mem_append.2 (.inr (p2.mem_iff.1 hx))))
    simp only [List.append_nil, List.nil_append] at h
    exact (show Calls Try.prog 40 #[.slice (some ⟨g, 0, none⟩) n cap, .int .i64 0, .int .i64 20, .int .i64 n, .func (.func 28) #[] #[.pointer (some ⟨p, 0, none⟩), .pointer (some ⟨q, 0, none⟩)]] wr _ from h).mono fun r w' ⟨h1, C, h2, h3, h4, h5⟩ => ⟨h1, C, h2.trans (p1.append p2), h3, h4, u.trans h5⟩
  have HI1 := Lib.hid hi1; have HI2 := Lib.hid hi2; have HI3 := Lib.hid hi3; have HM := Lib.hid hm; have HL1 := Lib.hid hl1; have HL2 := Lib.hid hl2'
  clear hi1 hi2 hi3 hm hs hc hasc hok hB hub hasc' hl1 hl2 hl2' hl hBw hg
  go_enter Try.func36, Try.ntmps36
  go_wp2_with fail
  go_loopw [7, 8] (fun av bv wr => Upd (fun b => b = g) w wr ∧ ((av = .int .i64 0 ∧ bv = .int .i64 20 ∧ IRow wr g n cap (S1 ++ S2)) ∨ (av = .int .i64 20 ∧ bv = .int .i64 40 ∧ ∃ C1, C1.Perm S1 ∧ Srt lt C1 ∧ IRow wr g n cap (C1 ++ S2)) ∨
    (n = 40 ∧ av = .int .i64 40 ∧ bv = .int .i64 60 ∧ ∃ C1 C2, C1.Perm S1 ∧ Srt lt C1 ∧ C2.Perm S2 ∧ Srt lt C2 ∧ IRow wr g n cap (C1 ++ C2)))) (fun _ bv _ => 100 - (intOf bv).toNat)
  case atStart => exact ⟨Upd.refl _ _, .inl ⟨rfl, rfl, hrow⟩⟩
  case round =>
    clear hrow
    obtain ⟨hU, ⟨rfl, rfl, hrow⟩ | ⟨rfl, rfl, C1, p1, s1, hrow⟩ | ⟨h40, rfl, rfl, C1, C2, p1, s1, p2, s2, hrow⟩⟩ := hrel
    · have b1 : (20 : Int) ≤ (n : Int) := by omega
      have HC := Lib.hid (HI1.out wr hU hrow)
      clear hrow
      go_wp2_with fail
      (with_reducible refine HC.out.mono ?_)
      rintro r w1 ⟨rfl, C1, p1, s1, hrow, hU1⟩
      have HP := Lib.hid p1; have HSR := Lib.hid s1
      clear p1 s1
      go_wp2_with fail
      go_roundw
      case rel => exact ⟨hU1, .inr (.inl ⟨rfl, rfl, C1, HP.out, HSR.out, hrow⟩)⟩
      case measure => simp [intOf]
    · have hcl : C1.length = 20 := p1.length_eq.trans HL1.out
      have HC0 := Lib.hid (fun z hz => HI2.out z hz wr C1 hU hcl hrow)
      have HP := Lib.hid p1; have HSR := Lib.hid s1; have HCL := Lib.hid hcl
      clear p1 s1 hcl hrow
      by_cases h40 : n = 40
      · have HC := Lib.hid (HC0.out 40 (by omega))
        have b1 : (40 : Int) ≤ (n : Int) := by omega
        have H40 := Lib.hid h40
        clear h40
        go_wp2_with fail
        (with_reducible refine HC.out.mono ?_)
        rintro r w1 ⟨rfl, C2, p2, s2, hrow, hU1⟩
        have HP2 := Lib.hid p2; have HSR2 := Lib.hid s2
        clear p2 s2
        go_wp2_with fail
        go_roundw
        case rel => exact ⟨hU1, .inr (.inr ⟨H40.out, rfl, rfl, C1, C2, HP.out, HSR.out, HP2.out, HSR2.out, hrow⟩)⟩
        case measure => simp [intOf]
      · have b1 : ¬ (40 : Int) ≤ (n : Int) := by omega
        have HC := Lib.hid (HC0.out n rfl)
        go_wp2_with fail
        (with_reducible refine HC.out.mono ?_)
        rintro r w1 ⟨rfl, C2, p2, s2, hrow, hU1⟩
        have HP2 := Lib.hid p2; have HSR2 := Lib.hid s2
        clear p2 s2
        go_wp2_with fail
        go_loopw [6] (fun sv wq => Upd (fun b => b = g) w wq ∧ ((sv = .int .i64 20 ∧ IRow wq g n cap (C1 ++ C2)) ∨ (sv = .int .i64 40 ∧ ∃ C, C.Perm (S1 ++ S2) ∧ Srt lt C ∧ IRow wq g n cap C))) (fun sv _ => 100 - (intOf sv).toNat)
        case atStart => exact ⟨hU1, .inl ⟨rfl, hrow⟩⟩
        case round =>
          clear hrow hU1
          obtain ⟨hU1, ⟨rfl, hrow⟩ | ⟨rfl, C, p3, s3, hrow⟩⟩ := hrel
          · by_cases h20 : n = 20
            · subst h20
              have e2 : C2 = [] := List.eq_nil_of_length_eq_zero (by rw [HP2.out.length_eq, HL2.out])
              have e3 : S2 = [] := List.eq_nil_of_length_eq_zero (by rw [HL2.out])
              subst e2 e3
              have hrow2 : IRow wr g 20 cap C1 := by simpa using hrow
              clear hrow
              go_wp2_with fail
              go_end0
              exact ⟨rfl, C1, by simpa using HP.out, HSR.out, hrow2, hU1⟩
            · have b2 : (20 : Int) < (n : Int) := by omega
              have HC2 := Lib.hid (HM.out (by omega) n rfl wr C1 C2 hU1 HP.out HP2.out HSR.out HSR2.out hrow)
              clear hrow
              go_wp2_with fail
              go_loopw [7, 8] (fun av bv wq => av = .int .i64 0 ∧ bv = .int .i64 40 ∧ wq = wr) (fun _ _ _ => 0)
              case atStart => exact ⟨rfl, rfl, rfl⟩
              case round =>
                obtain ⟨rfl, rfl, rfl⟩ := hrel
                go_wp2_with fail
                (with_reducible refine HC2.out.mono ?_)
                rintro r w2 ⟨rfl, C, p3, s3, hrow, hU2⟩
                have HP3 := Lib.hid p3; have HSR3 := Lib.hid s3
                clear p3 s3
                go_wp2_with fail
                go_roundw
                case rel => exact ⟨hU2, .inr ⟨rfl, C, HP3.out, HSR3.out, hrow⟩⟩
                case measure => simp [intOf]
          · have b2 : ¬ (40 : Int) < (n : Int) := by omega
            have HP3 := Lib.hid p3; have HSR3 := Lib.hid s3
            clear p3 s3
            go_wp2_with fail
            go_end0
            exact ⟨rfl, C, HP3.out, HSR3.out, hrow, hU1⟩
    · have hcl : (C1 ++ C2).length = n := by rw [List.length_append, p1.length_eq, p2.length_eq, HL1.out, HL2.out]; omega
      have HC := Lib.hid (HI3.out 40 (by omega) wr (C1 ++ C2) hU hcl hrow)
      have HC3 := Lib.hid (fun wz (hz : Upd (fun b => b = g) w wz) (hr : IRow wz g n cap (C1 ++ C2)) => HM.out (by omega) 40 (by omega) wz C1 C2 hz p1 p2 s1 s2 hr)
      have b1 : ¬ (60 : Int) ≤ (n : Int) := by omega
      have b2 : (20 : Int) < (n : Int) := by omega
      have b3 : (40 : Int) ≤ (n : Int) := by omega
      have b4 : ¬ (80 : Int) ≤ (n : Int) := by omega
      have b5 : ¬ (40 : Int) < (n : Int) := by omega
      have b6 : ¬ (60 : Int) < (n : Int) := by omega
      clear p1 s1 p2 s2 hcl hrow h40
      go_wp2_with fail
      (with_reducible refine HC.out.mono ?_)
      rintro r w1 ⟨rfl, hrow, hU1⟩
      go_wp2_with fail
      go_loopw [6] (fun sv wq => Upd (fun b => b = g) w wq ∧ ((sv = .int .i64 20 ∧ IRow wq g n cap (C1 ++ C2)) ∨ (sv = .int .i64 40 ∧ ∃ C, C.Perm (S1 ++ S2) ∧ Srt lt C ∧ IRow wq g n cap C))) (fun sv _ => 100 - (intOf sv).toNat)
      case atStart => exact ⟨hU1, .inl ⟨rfl, hrow⟩⟩
      case round =>
        clear hrow hU1
        obtain ⟨hU1, ⟨rfl, hrow⟩ | ⟨rfl, C, p3, s3, hrow⟩⟩ := hrel
        · have HC2 := Lib.hid (HC3.out wr hU1 hrow)
          clear hrow
          go_wp2_with fail
          go_loopw [7, 8] (fun av bv wq => (av = .int .i64 0 ∧ bv = .int .i64 40 ∧ wq = wr) ∨ (av = .int .i64 40 ∧ bv = .int .i64 80 ∧ Upd (fun b => b = g) w wq ∧ ∃ C, C.Perm (S1 ++ S2) ∧ Srt lt C ∧ IRow wq g n cap C)) (fun _ bv _ => 100 - (intOf bv).toNat)
          case atStart => exact .inl ⟨rfl, rfl, rfl⟩
          case round =>
            obtain ⟨rfl, rfl, rfl⟩ | ⟨rfl, rfl, hU2, C, p3, s3, hrow⟩ := hrel
            · go_wp2_with fail
              (with_reducible refine HC2.out.mono ?_)
              rintro r w2 ⟨rfl, C, p3, s3, hrow, hU2⟩
              have HP3 := Lib.hid p3; have HSR3 := Lib.hid s3
              clear p3 s3
              go_wp2_with fail
              go_roundw
              case rel => exact .inr ⟨rfl, rfl, hU2, C, HP3.out, HSR3.out, hrow⟩
              case measure => simp [intOf]
            · have HP3 := Lib.hid p3; have HSR3 := Lib.hid s3
              clear p3 s3
              go_wp2_with fail
              go_roundw
              case rel => exact ⟨hU2, .inr ⟨rfl, C, HP3.out, HSR3.out, hrow⟩⟩
              case measure => simp [intOf]
        · have HP3 := Lib.hid p3; have HSR3 := Lib.hid s3
          clear p3 s3
          go_wp2_with fail
          go_end0
          exact ⟨rfl, C, HP3.out, HSR3.out, hrow, hU1⟩
/-- The stable sort of up to forty is done. -/
theorem stableOk {n : Nat} (hn : n ≤ 40) : StableOk n := by
  by_cases h : n < 20
  · exact stableOk_small h
  · exact stableOk_mid (by omega) hn
end Go.Proofs.Ytifcdfilglbdgaa
