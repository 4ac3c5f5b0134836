/-
  NAMES (book.Name, lapidaryref11.Name, lapidarylaw11.few): what is a name, byte by byte; both sides tell the same of any text.
-/
import Derived.Test.YtdohkjpapmkhjaaRefSnap
namespace Go.Proofs.Ytdohkjpapmkhjaa
open Go.RowKit

def okAt (i c : Nat) : Bool := (decide (97 ≤ c) && decide (c ≤ 122)) || c == 95 || (decide (0 < i) && decide (48 ≤ c) && decide (c ≤ 57))
def byteAt8 (s : ByteArray) (i : Nat) : Nat := (s.get! i).toNat
def isName (s : ByteArray) : Bool := decide (1 ≤ s.size) && decide (s.size ≤ 20) && (List.range s.size).all fun i => okAt i (byteAt8 s i)

theorem isName_bad {s : ByteArray} {i : Nat} (hi : i < s.size) (h : okAt i (byteAt8 s i) = false) : isName s = false := by
  unfold isName
  have : ((List.range s.size).all fun i => okAt i (byteAt8 s i)) = false := by
    rw [List.all_eq_false]
    exact ⟨i, by simpa using hi, by simp [h]⟩
  rw [this, Bool.and_false]
theorem isName_good {s : ByteArray} (h : ∀ i, i < s.size → okAt i (byteAt8 s i) = true) : isName s = (decide (1 ≤ s.size) && decide (s.size ≤ 20)) := by
  unfold isName
  have : ((List.range s.size).all fun i => okAt i (byteAt8 s i)) = true := by
    rw [List.all_eq_true]
    exact fun i hi => h i (by simpa using hi)
  rw [this, Bool.and_true]
theorem byteAt8_get {s : ByteArray} {i : Nat} (h : i < s.size) : byteAt8 s i = (s[i]'h).toNat := by
  have := get_at s i h
  unfold byteAt8
  rw [Nat.add_zero] at this
  rw [this]
theorem byteAt8_lt (s : ByteArray) (i : Nat) : byteAt8 s i < 256 := (s.get! i).toNat_lt

/-- The rune that stands there, and its width: of bytes below 128 the byte itself. -/
theorem rune_at (s : ByteArray) (pos : Nat) (h : pos < s.size) :
    1 ≤ (Utf8.decode s pos).2 ∧ ((Utf8.decode s pos).1 < 128 → (Utf8.decode s pos).2 = 1 ∧ byteAt8 s pos = (Utf8.decode s pos).1) ∧ (128 ≤ (Utf8.decode s pos).1 → 128 ≤ byteAt8 s pos) ∧ (Utf8.decode s pos).1 ≤ 2147483647 := by
  rw [byteAt8_get h]
  by_cases ha : (s[pos]'h).toNat < 128
  · rw [decode_ascii s pos h ha]
    exact ⟨Nat.le_refl _, fun _ => ⟨rfl, rfl⟩, fun e => absurd ha (by simpa using e), by simp only; omega⟩
  · obtain ⟨h1, h2⟩ := decode_high s pos h (by omega)
    exact ⟨h2, fun e => by omega, fun _ => by omega, decode_le s pos⟩

set_option maxHeartbeats 1000000 in
set_option maxRecDepth 100000 in
/-- book.Name. -/
theorem name_any (s : ByteArray) (w : World) (hsz : s.size ≤ 4611686018427387904) : Calls Try.prog 50 #[.string s] w fun e w' => e = .returned (.bool (isName s)) ∧ Below w.heap.size w w' := by
  obtain ⟨B, hB⟩ : ∃ B, B = isName s := ⟨_, rfl⟩
  rw [← hB]
  have HB := Lib.hid hB; clear hB
  go_enter Try.func50, Try.ntmps50
  go_wp2_with fail
  go_loopw [2] (fun v wr => ∃ pos : Nat, v = .bool false ∧ wr = w.iter s pos ∧ pos ≤ s.size ∧ ∀ i, i < pos → okAt i (byteAt8 s i) = true) (fun _ w' => s.size - w'.iterPos w.heap.size)
  case atStart => exact ⟨0, rfl, rfl, Nat.zero_le _, fun i hi => by omega⟩
  case round =>
    obtain ⟨pos, rfl, rfl, hpos, hok⟩ := hrel
    have HOK := Lib.hid hok; clear hok
    have hal : ∀ q, Below w.heap.size w (w.iter s q) := fun q => (Below.refl _ _).alloc (Nat.le_refl _) _
    by_cases hp : pos < s.size
    · obtain ⟨hw1, hlo, hhi, hle⟩ := rune_at s pos hp
      have hnx0 : ∀ ty, (Instr.next (.pointer (some ⟨w.heap.size, 0, none⟩)) true ty).run Try.prog (w.iter s pos) = _ := fun ty => run_next_any w s pos ty hp
      obtain ⟨r, hr⟩ : ∃ r, r = (Utf8.decode s pos).1 := ⟨_, rfl⟩
      obtain ⟨d, hd⟩ : ∃ d, d = (Utf8.decode s pos).2 := ⟨_, rfl⟩
      rw [← hr, ← hd] at hnx0
      rw [← hr] at hlo hhi hle
      rw [← hd] at hw1 hlo
      clear hr hd
      have hnx : ∀ ty, (Instr.next (.pointer (some ⟨w.heap.size, 0, none⟩)) true ty).run Try.prog (w.iter s pos) = .ok (.tuple #[.bool true, .int .i64 pos, .int .i32 (r : Int)]) (w.iter s (pos + d)) := hnx0
      clear hnx0
      have HLO := Lib.hid hlo; clear hlo
      have HHI := Lib.hid hhi; clear hhi
      have hbad : ¬ ((97 ≤ r ∧ r ≤ 122) ∨ r = 95 ∨ (0 < pos ∧ 48 ≤ r ∧ r ≤ 57)) → B = false := fun hn => by
        rw [HB.out]
        refine isName_bad hp ?_
        have hc : ¬ ((97 ≤ byteAt8 s pos ∧ byteAt8 s pos ≤ 122) ∨ byteAt8 s pos = 95 ∨ (0 < pos ∧ 48 ≤ byteAt8 s pos ∧ byteAt8 s pos ≤ 57)) := by
          by_cases h128 : r < 128
          · rw [(HLO.out h128).2]; exact hn
          · have := HHI.out (by omega)
            omega
        unfold okAt
        rw [Bool.eq_false_iff]
        intro h
        simp only [Bool.or_eq_true, Bool.and_eq_true, decide_eq_true_eq, beq_iff_eq] at h
        omega
      have HBAD := Lib.hid hbad; clear hbad
      have hgood : ((97 ≤ r ∧ r ≤ 122) ∨ r = 95 ∨ (0 < pos ∧ 48 ≤ r ∧ r ≤ 57)) → pos + d ≤ s.size ∧ (∀ i, i < pos + d → okAt i (byteAt8 s i) = true) := fun hg => by
        obtain ⟨h1, h2⟩ := HLO.out (by omega)
        subst h1
        refine ⟨by omega, fun i hi => ?_⟩
        by_cases e : i = pos
        · subst e
          unfold okAt
          simp only [Bool.or_eq_true, Bool.and_eq_true, decide_eq_true_eq, beq_iff_eq]
          omega
        · exact HOK.out i (by omega)
      have HGOOD := Lib.hid hgood; clear hgood
      by_cases c1 : 97 ≤ r ∧ r ≤ 122
      · obtain ⟨g1, g2⟩ := HGOOD.out (.inl c1)
        have c1a : (97 : Int) ≤ (r : Int) := by omega
        have c1b : (r : Int) ≤ 122 := by omega
        have G2 := Lib.hid g2; clear g2 c1
        go_wp2_with fail
        go_roundw
        case rel => exact ⟨pos + d, rfl, rfl, g1, G2.out⟩
        case measure => simp; omega
      by_cases c2 : r = 95
      · obtain ⟨g1, g2⟩ := HGOOD.out (.inr (.inl c2))
        have G2 := Lib.hid g2; clear g2 c1
        have c2a : ¬ (97 : Int) ≤ (r : Int) := by omega
        have c2b : decide ((97 : Int) ≤ (r : Int)) = false := by simp; omega
        have c2c : ((r : Int) == 95) = true := by rw [beq_iff_eq]; omega
        clear c2
        go_wp2_with fail
        go_roundw
        case rel => exact ⟨pos + d, rfl, rfl, g1, G2.out⟩
        case measure => simp; omega
      have c2c : ((r : Int) == 95) = false := by rw [beq_eq_false_iff_ne]; omega
      have hsplit : ((97 : Int) ≤ (r : Int) ∧ ¬ (r : Int) ≤ 122 ∧ decide ((97 : Int) ≤ (r : Int)) = true ∧ decide ((r : Int) ≤ 122) = false) ∨ (¬ (97 : Int) ≤ (r : Int) ∧ ¬ (97 : Int) ≤ (r : Int) ∧ decide ((97 : Int) ≤ (r : Int)) = false ∧ decide ((97 : Int) ≤ (r : Int)) = false) := by
        by_cases h : (97 : Int) ≤ (r : Int)
        · exact .inl ⟨h, by omega, by simp; omega, by simp; omega⟩
        · exact .inr ⟨h, h, by simp; omega, by simp; omega⟩
      have C1 := Lib.hid c1; have C2 := Lib.hid c2; clear c1 c2
      rcases hsplit with ⟨u1, u2, u3, u4⟩ | ⟨u1, u2, u3, u4⟩
      all_goals
        by_cases h0 : pos = 0
        · obtain rfl : B = false := HBAD.out (by have := C1.out; have := C2.out; omega)
          subst h0
          go_wp2_with fail
          go_ret
          exact ⟨rfl, hal _⟩
        · have h0a : ((pos : Int) == 0) = false := by rw [beq_eq_false_iff_ne]; omega
          have H0 := Lib.hid h0; clear h0
          by_cases h1 : (r : Int) < 48
          · obtain rfl : B = false := HBAD.out (by have := C1.out; have := C2.out; omega)
            have h1a : decide ((r : Int) < 48) = true := by simp; omega
            go_wp2_with fail
            go_ret
            exact ⟨rfl, hal _⟩
          · have h1a : decide ((r : Int) < 48) = false := by simp; omega
            by_cases h2 : (57 : Int) < (r : Int)
            · obtain rfl : B = false := HBAD.out (by have := C1.out; have := C2.out; omega)
              have h2a : decide ((57 : Int) < (r : Int)) = true := by simp; omega
              go_wp2_with fail
              go_ret
              exact ⟨rfl, hal _⟩
            · have h2a : decide ((57 : Int) < (r : Int)) = false := by simp; omega
              obtain ⟨g1, g2⟩ := HGOOD.out (.inr (.inr ⟨by have := H0.out; omega, by omega, by omega⟩))
              have G2 := Lib.hid g2; clear g2
              go_wp2_with fail
              go_roundw
              case rel => exact ⟨pos + d, rfl, rfl, g1, G2.out⟩
              case measure => simp; omega
    · have hpe : pos = s.size := by omega
      have hall := isName_good (s := s) (fun i hi => HOK.out i (by omega))
      rw [← HB.out] at hall
      have HALL := Lib.hid hall; clear hall
      have hnx : ∀ ty, (Instr.next (.pointer (some ⟨w.heap.size, 0, none⟩)) true ty).run Try.prog (w.iter s pos) = .ok (.tuple #[.bool false]) (w.iter s pos) := fun ty => run_next_end w s pos ty hp
      clear hpe
      by_cases h0 : s.size = 0
      · have hs1 : s.toList = [] := by
          rw [ByteArray.toList_eq]
          exact List.eq_nil_of_length_eq_zero (by simpa using h0)
        obtain rfl : B = false := by rw [HALL.out, h0]; rfl
        clear h0
        go_wp2_with fail
        go_ret
        exact ⟨rfl, hal _⟩
      · have hs1 : ¬ s.toList = [] := by
          rw [ByteArray.toList_eq]
          intro e
          have := congrArg List.length e
          simp at this
          exact h0 (by rw [this]; rfl)
        have hs2 : s.toList.isEmpty = false := by rw [List.isEmpty_eq_false_iff]; exact hs1
        by_cases h20 : s.size ≤ 20
        · obtain rfl : B = true := by rw [HALL.out]; simp; omega
          have h20a : (s.size : Int) ≤ 20 := by omega
          have h20b : decide ((s.size : Int) ≤ 20) = true := by simp; omega
          have h20c : decide (s.size ≤ 20) = true := by simp; omega
          go_wp2_with fail
          go_ret
          exact ⟨rfl, hal _⟩
        · obtain rfl : B = false := by rw [HALL.out]; simp; omega
          have h20a : ¬ (s.size : Int) ≤ 20 := by omega
          have h20b : decide ((s.size : Int) ≤ 20) = false := by simp; omega
          have h20c : decide (s.size ≤ 20) = false := by simp; omega
          go_wp2_with fail
          go_ret
          exact ⟨rfl, hal _⟩

set_option maxHeartbeats 1000000 in
set_option maxRecDepth 100000 in
/-- lapidaryref11.Name. -/
theorem rname_any (s : ByteArray) (w : World) (hsz : s.size ≤ 4611686018427387904) : Calls Try.prog 51 #[.string s] w fun e w' => e = .returned (.bool (isName s)) ∧ w' = w := by
  obtain ⟨B, hB⟩ : ∃ B, B = isName s := ⟨_, rfl⟩
  rw [← hB]
  have HB := Lib.hid hB; clear hB
  by_cases h0 : s.size = 0
  · obtain rfl : B = false := by rw [HB.out]; unfold isName; rw [h0]; rfl
    have h1 : (s.size : Int) < 1 := by omega
    clear h0
    go_enter Try.func51, Try.ntmps51
    go_wp2_with fail
    go_ret
    exact ⟨rfl, rfl⟩
  by_cases h20 : 20 < s.size
  · obtain rfl : B = false := by rw [HB.out]; unfold isName; simp; omega
    have h1 : ¬ (s.size : Int) < 1 := by omega
    have h2 : (20 : Int) < (s.size : Int) := by omega
    have H0 := Lib.hid h0; clear h0
    go_enter Try.func51, Try.ntmps51
    go_wp2_with fail
    go_ret
    exact ⟨rfl, rfl⟩
  have h1 : ¬ (s.size : Int) < 1 := by omega
  have h2 : ¬ (20 : Int) < (s.size : Int) := by omega
  have h3 : (0 : Int) < (s.size : Int) := by omega
  have hp0 : 0 < s.size := by omega
  obtain ⟨c0, hc0⟩ : ∃ c0, (s[0]'hp0).toNat = c0 := ⟨_, rfl⟩
  have hb0 : byteAt8 s 0 = c0 := by rw [byteAt8_get hp0]; exact hc0
  have HB0 := Lib.hid hb0; clear hb0
  by_cases hd : 48 ≤ c0 ∧ c0 ≤ 57
  · obtain rfl : B = false := by
      rw [HB.out]
      refine isName_bad hp0 ?_
      rw [HB0.out]
      unfold okAt
      rw [Bool.eq_false_iff]
      intro h
      simp only [Bool.or_eq_true, Bool.and_eq_true, decide_eq_true_eq, beq_iff_eq] at h
      omega
    have d1 : (48 : Int) ≤ (c0 : Int) := by omega
    have d2 : (c0 : Int) ≤ 57 := by omega
    clear hd
    go_enter Try.func51, Try.ntmps51
    go_wp2_with fail
    go_ret
    exact ⟨rfl, rfl⟩
  have hloop : ∀ n, n < s.size → ∀ c, (c = byteAt8 s n) → (n = 0 → ¬ (48 ≤ c ∧ c ≤ 57)) := fun n _ c hc e hx => by subst e; rw [HB0.out] at hc; subst hc; exact hd hx
  have HLOOP := Lib.hid hloop
  have hsplit : (48 ≤ c0 ∧ ¬ (c0 : Int) ≤ 57 ∧ decide ((48 : Int) ≤ (c0 : Int)) = true ∧ decide ((c0 : Int) ≤ 57) = false) ∨ (¬ (48 : Int) ≤ (c0 : Int) ∧ ¬ (48 : Int) ≤ (c0 : Int) ∧ decide ((48 : Int) ≤ (c0 : Int)) = false ∧ decide ((48 : Int) ≤ (c0 : Int)) = false) := by
    by_cases h : 48 ≤ c0
    · exact .inl ⟨h, by omega, by simp; omega, by simp; omega⟩
    · exact .inr ⟨by omega, by omega, by simp; omega, by simp; omega⟩
  clear hloop hd
  rcases hsplit with ⟨u1, u2, u3, u4⟩ | ⟨u1, u2, u3, u4⟩
  all_goals
    go_enter Try.func51, Try.ntmps51
    go_wp2_with fail
    clear u1 u2 u3 u4 hc0
    go_loop [3] (fun i => ∃ n : Nat, n ≤ s.size ∧ i = .int .i64 n ∧ ∀ k, k < n → okAt k (byteAt8 s k) = true) (fun i => s.size - (intOf i).toNat)
    case atStart => exact ⟨0, Nat.zero_le _, rfl, fun k hk => by omega⟩
    case round =>
      obtain ⟨n, hn, rfl, hok⟩ := hrel
      have HOK := Lib.hid hok; clear hok
      by_cases hlt : n < s.size
      · obtain ⟨c, hc⟩ : ∃ c, (s[n]'hlt).toNat = c := ⟨_, rfl⟩
        have hbn : c = byteAt8 s n := by rw [byteAt8_get hlt]; exact hc.symm
        have hnd := HLOOP.out n hlt c hbn
        have hgood : ((97 ≤ c ∧ c ≤ 122) ∨ c = 95 ∨ (48 ≤ c ∧ c ≤ 57)) → ∀ k, k < n + 1 → okAt k (byteAt8 s k) = true := fun hg k hk => by
          by_cases e : k = n
          · subst e
            rw [← hbn]
            unfold okAt
            simp only [Bool.or_eq_true, Bool.and_eq_true, decide_eq_true_eq, beq_iff_eq]
            omega
          · exact HOK.out k (by omega)
        have HGOOD := Lib.hid hgood; clear hgood
        have hbad : ¬ ((97 ≤ c ∧ c ≤ 122) ∨ c = 95 ∨ (48 ≤ c ∧ c ≤ 57)) → B = false := fun hb => by
          rw [HB.out]
          refine isName_bad hlt ?_
          rw [← hbn]
          unfold okAt
          rw [Bool.eq_false_iff]
          intro h
          simp only [Bool.or_eq_true, Bool.and_eq_true, decide_eq_true_eq, beq_iff_eq] at h
          omega
        have HBAD := Lib.hid hbad; clear hbad hnd
        have HBN := Lib.hid hbn; clear hbn
        have hlt' : (n : Int) < (s.size : Int) := by omega
        by_cases g1 : 97 ≤ c
        · by_cases g2 : c ≤ 122
          · have H := HGOOD.out (.inl ⟨g1, g2⟩)
            have H := Lib.hid H
            have e1 : (97 : Int) ≤ (c : Int) := by omega
            have e2 : (c : Int) ≤ 122 := by omega
            clear g1 g2
            go_wp2_with fail
            go_round
            case rel => exact ⟨n + 1, by omega, by go_num, H.out⟩
            case measure => simp [intOf]; omega
          · obtain rfl : B = false := HBAD.out (by omega)
            have e1 : (97 : Int) ≤ (c : Int) := by omega
            have e2 : ¬ (c : Int) ≤ 122 := by omega
            have e2b : decide ((c : Int) ≤ 122) = false := by simp; omega
            have e3 : (48 : Int) ≤ (c : Int) := by omega
            have e4 : ¬ (c : Int) ≤ 57 := by omega
            have e4b : decide ((c : Int) ≤ 57) = false := by simp; omega
            have e5 : ((c : Int) == 95) = false := by rw [beq_eq_false_iff_ne]; omega
            clear g1 g2
            go_wp2_with fail
            go_ret
            exact ⟨rfl, rfl⟩
        · have e1 : ¬ (97 : Int) ≤ (c : Int) := by omega
          have e1b : decide ((97 : Int) ≤ (c : Int)) = false := by simp; omega
          by_cases g3 : 48 ≤ c
          · have e3 : (48 : Int) ≤ (c : Int) := by omega
            by_cases g4 : c ≤ 57
            · have H := HGOOD.out (.inr (.inr ⟨g3, g4⟩))
              have H := Lib.hid H
              have e4 : (c : Int) ≤ 57 := by omega
              clear g1 g3 g4
              go_wp2_with fail
              go_round
              case rel => exact ⟨n + 1, by omega, by go_num, H.out⟩
              case measure => simp [intOf]; omega
            · have e4 : ¬ (c : Int) ≤ 57 := by omega
              have e4b : decide ((c : Int) ≤ 57) = false := by simp; omega
              by_cases g5 : c = 95
              · have H := HGOOD.out (.inr (.inl g5))
                have H := Lib.hid H
                have e5 : ((c : Int) == 95) = true := by rw [beq_iff_eq]; omega
                clear g1 g3 g4 g5
                go_wp2_with fail
                go_round
                case rel => exact ⟨n + 1, by omega, by go_num, H.out⟩
                case measure => simp [intOf]; omega
              · obtain rfl : B = false := HBAD.out (by omega)
                have e5 : ((c : Int) == 95) = false := by rw [beq_eq_false_iff_ne]; omega
                clear g1 g3 g4 g5
                go_wp2_with fail
                go_ret
                exact ⟨rfl, rfl⟩
          · obtain rfl : B = false := HBAD.out (by omega)
            have e3 : ¬ (48 : Int) ≤ (c : Int) := by omega
            have e3b : decide ((48 : Int) ≤ (c : Int)) = false := by simp; omega
            have e5 : ((c : Int) == 95) = false := by rw [beq_eq_false_iff_ne]; omega
            clear g1 g3
            go_wp2_with fail
            go_ret
            exact ⟨rfl, rfl⟩
      · have hne : n = s.size := by omega
        obtain rfl : B = true := by rw [HB.out, isName_good (fun i hi => HOK.out i (by omega))]; simp; omega
        have hlt' : ¬ (n : Int) < (s.size : Int) := by omega
        clear hne
        go_wp2_with fail
        go_ret
        exact ⟨rfl, rfl⟩

/-- The piece that 'few' leaves. -/
def cut30 (s : ByteArray) : ByteArray := s.extract 0 (min s.size 30)
theorem size_cut30 (s : ByteArray) : (cut30 s).size ≤ 30 := by unfold cut30; simp; omega
theorem few_any (s : ByteArray) (w : World) (hsz : s.size ≤ 4611686018427387904) : Calls Try.prog 46 #[.string s] w fun e w' => e = .returned (.string (cut30 s)) ∧ w' = w := by
  by_cases h : s.size ≤ 30
  · have h1 : (s.size : Int) ≤ 30 := by omega
    have hm : min s.size 30 = s.size := by omega
    go_enter Try.func46, Try.ntmps46
    go_wp2_with fail
    go_ret
    exact ⟨by unfold cut30; rw [hm, ByteArray.extract_zero_size]; rfl, rfl⟩
  · have h1 : (30 : Int) < (s.size : Int) := by omega
    have hm : min s.size 30 = 30 := by omega
    go_enter Try.func46, Try.ntmps46
    go_wp2_with fail
    go_ret
    exact ⟨by unfold cut30; rw [hm]; rfl, rfl⟩
end Go.Proofs.Ytdohkjpapmkhjaa
