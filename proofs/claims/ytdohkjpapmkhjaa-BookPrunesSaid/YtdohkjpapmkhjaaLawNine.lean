/-
  LAYER 9's LAWS (package lapidarylaw09): what stands in them all: the document's example ('awake').
-/
import Derived.Test.YtdohkjpapmkhjaaRefNine
namespace Go.Proofs.Ytdohkjpapmkhjaa
open Go.RowKit

/-- All blocks from B on are one's own. -/
def own (B : Nat) : Nat → Nat := col (fun _ => 0) B 1
theorem own_col {B n : Nat} (h : B ≤ n) : col (own B) n 1 = own B := by
  funext b; unfold own col
  by_cases h1 : b < n
  · rw [if_pos h1]
  · rw [if_neg h1, if_neg (by omega)]
theorem own_below {B : Nat} {w w' : World} (h : Upd (fun b => own B b = 1) w w') (hB : B ≤ w.heap.size) : Below B w w' :=
  h.below hB (fun b hb e => by rw [own, col_old hb] at e; exact absurd e (by decide))

theorem below_drewN {n : Nat} {B : Nat} {w : World} : Below B w (w.drewN n) := ⟨rfl, rfl, rfl, Nat.le_refl _, fun _ _ => rfl⟩
theorem wrapu_lt (x : Int) : IntKind.u64.wrap x < 18446744073709551616 := by
  have e : IntKind.u64.wrap x = x % 18446744073709551616 := by simp [IntKind.wrap, IntKind.signed, IntKind.bits]
  rw [e]; omega
theorem col_zero {B n k : Nat} {c : Nat → Nat} (h : ∀ b, b < B → c b = 0) (hn : B ≤ n) : ∀ b, b < B → col c n k b = 0 := fun b hb => by rw [col_old (by omega)]; exact h b hb
/-- Elements of three cells: a uint8, a uint64, a bool. -/
def Script3 (w : World) (a : Option Addr) (len : Nat) : Prop :=
  ∀ i, i < len → ∃ b off d x n, a = some ⟨b, off, none⟩ ∧ b < w.heap.size ∧ w.cell? ⟨b, off + i * 3, none⟩ = some (.int .u8 d) ∧ w.cell? ⟨b, off + i * 3 + 1, none⟩ = some (.int .u64 x) ∧
    w.cell? ⟨b, off + i * 3 + 2, none⟩ = some (.bool n) ∧ 0 ≤ d ∧ d ≤ 255 ∧ 0 ≤ x ∧ x ≤ 18446744073709551615

section
variable {B p : Nat} {w w' : World} {f : Int} {L : List Nat}
theorem new_own (f : Int) (w : World) (h : 1 ≤ f) (h2 : f ≤ 1099511627776) :
    Calls Try.prog 17 #[.int .u64 f] w fun e w' => e = .returned (.tuple #[.pointer (some ⟨w.heap.size, 0, none⟩), .int .i64 0]) ∧
      LogAt (own w.heap.size) 1 w' w.heap.size f [] ∧ Below w.heap.size w w' := new_ok f w h h2 _ 1
theorem begin_own (h : LogAt (own B) 1 w p f L) (hf : f + L.length ≤ 1099511627776) (hB : B ≤ w.heap.size) :
    Calls Try.prog 18 #[.pointer (some ⟨p, 0, none⟩)] w fun e w' => e = .returned (.tuple #[.int .u64 (f + L.length), .int .i64 0]) ∧ LogAt (own B) 1 w' p f (L ++ [1]) ∧ Below B w w' := by
  refine (begin_at h hf).mono ?_
  rintro e w' ⟨rfl, hl, hu⟩
  exact ⟨rfl, by rw [own_col hB] at hl; exact hl, own_below hu hB⟩
theorem commit_own (h : LogAt (own B) 1 w p f L) (hB : B ≤ w.heap.size) (x : Int) :
    Calls Try.prog 23 #[.pointer (some ⟨p, 0, none⟩), .int .u64 x] w fun e w' => e = .returned (.int .i64 (endErr f L x)) ∧ LogAt (own B) 1 w' p f (ended f L x 2) ∧ Below B w w' := by
  refine (commit_at h x).mono ?_
  rintro e w' ⟨rfl, hl, hu⟩
  exact ⟨rfl, hl, own_below hu hB⟩
theorem abort_own (h : LogAt (own B) 1 w p f L) (hB : B ≤ w.heap.size) (x : Int) :
    Calls Try.prog 25 #[.pointer (some ⟨p, 0, none⟩), .int .u64 x] w fun e w' => e = .returned (.int .i64 (endErr f L x)) ∧ LogAt (own B) 1 w' p f (ended f L x 3) ∧ Below B w w' := by
  refine (abort_at h x).mono ?_
  rintro e w' ⟨rfl, hl, hu⟩
  exact ⟨rfl, hl, own_below hu hB⟩
end

set_option maxHeartbeats 1000000 in
set_option maxRecDepth 100000 in
theorem awake_nine (w : World) : Calls Try.prog 16 #[] w fun e w' => e = .returned (.bool true) ∧ Below w.heap.size w w' := by
  go_enter Try.func16, Try.ntmps16
  go_wp2_with fail
  refine (new_own 5 w (by decide) (by decide)).mono ?_
  rintro e w1 ⟨rfl, l1, b1⟩
  go_wp2_with fail
  refine (begin_own l1 (by decide) b1.size).mono ?_
  rintro e w2 ⟨rfl, l2, b2⟩
  go_wp2_with fail
  have z2 := (b1.trans b2).size
  refine (begin_own l2 (by decide) z2).mono ?_
  rintro e w3 ⟨rfl, l3, b3⟩
  go_wp2_with fail
  have z3 := ((b1.trans b2).trans b3).size
  refine (commit_own l3 z3 5).mono ?_
  rintro e w4 ⟨rfl, l4, b4⟩
  have l4' : LogAt (own w.heap.size) 1 w4 w.heap.size 5 [2, 1] := l4
  have e4 : endErr 5 ([] ++ [1] ++ [1]) 5 = 0 := by decide
  rw [e4]
  clear l4 l3 l2 l1 e4
  go_wp2_with fail
  refine (all_at l4').mono ?_
  rintro e w5 ⟨v, rfl, own5, b5⟩
  have e5 : running 5 [2, 1] = [6] := by decide
  rw [e5] at own5
  obtain ⟨g, cap, rfl, c5, _, _, _⟩ := ownsRow_cell1 own5 (j := 0) rfl
  have l5 := l4'.same b5
  clear own5 l4'
  go_wp2_with fail
  have s5 : stt 5 [2, 1] 5 = 2 := by decide
  refine (state_at l5 5).mono ?_
  rintro e w6 ⟨rfl, n6, rfl⟩
  rw [s5]
  go_wp2_with fail
  refine (next_at (l5.drewN n6)).mono ?_
  rintro e w6 ⟨rfl, n7, rfl⟩
  go_wp2_with fail
  go_ret
  refine ⟨rfl, ?_⟩
  have t1 := ((b1.trans b2).trans b3).trans b4
  have t2 := t1.trans (b5.mono t1.size)
  exact Upd.below (S := fun b => w.heap.size ≤ b) (Upd.drewN (Upd.of_below t2 (fun b _ h => h)) _) (Nat.le_refl _) (fun b hb h => absurd hb (Nat.not_lt_of_le h))

theorem map_getD (L : List Nat) : (List.range L.length).map (fun i => L.getD i 0) = L := by
  apply List.ext_getElem?
  intro i
  by_cases h : i < L.length
  · simp [h]
  · simp [h]
theorem running_count (f : Int) (L : List Nat) : (running f L).length = L.count 1 := by
  unfold running
  rw [List.length_map]
  have e := congrArg (List.count 1) (map_getD L)
  rw [← e, List.count_eq_countP, List.countP_map, List.countP_eq_length_filter]
  rfl
theorem running_set (f : Int) (L : List Nat) (i s : Nat) (hi : i < L.length) (h1 : L.getD i 0 = 1) (hs : s ≠ 1) : (running f (L.set i s)).length + 1 = (running f L).length := by
  rw [running_count, running_count, List.count_set hi]
  have h2 : L[i] = 1 := by simpa [List.getD_eq_getElem?_getD, hi] using h1
  have hp : 0 < L.count 1 := List.count_pos_iff.2 (h2 ▸ List.getElem_mem hi)
  have hs' : (s == 1) = false := by rw [beq_eq_false_iff_ne]; exact hs
  simp only [h2, beq_self_eq_true, if_true, hs', Bool.false_eq_true, if_false]
  omega

theorem running_rising (f : Int) (L : List Nat) : (running f L).Pairwise (· < ·) := by
  unfold running
  rw [List.pairwise_map]
  refine List.Pairwise.imp ?_ (List.Pairwise.filter _ List.pairwise_lt_range)
  intro a b h
  omega
theorem mem_running (f : Int) (L : List Nat) (y : Int) : y ∈ running f L ↔ stt f L y = 1 := by
  unfold running
  rw [List.mem_map]
  constructor
  · rintro ⟨i, hi, rfl⟩
    rw [List.mem_filter] at hi
    rw [stt_in (by omega), show (f + (i : Int) - f).toNat = i by omega]
    simpa using hi.2
  · intro h
    have hlo : f ≤ y := by
      by_cases hx : y < f
      · rw [stt_lo hx] at h; omega
      · omega
    have hhi : y < f + L.length := by
      by_cases hx : f + L.length ≤ y
      · rw [stt_hi hx] at h; omega
      · omega
    refine ⟨(y - f).toNat, ?_, by omega⟩
    rw [List.mem_filter]
    rw [stt_in hlo] at h
    exact ⟨by simp; omega, by rw [h]; rfl⟩
theorem stt_snoc (f : Int) (L : List Nat) (s : Nat) (y : Int) : stt f (L ++ [s]) y = if y = f + L.length then s else stt f L y := by
  by_cases h : y < f
  · rw [stt_lo h, stt_lo h, if_neg (by omega)]
  · rw [stt_in (by omega), stt_in (by omega), getD_snoc]
    by_cases e : y = f + L.length
    · rw [if_pos e, if_pos (by omega)]
    · rw [if_neg e, if_neg (by omega)]
theorem stt_ended (f : Int) (L : List Nat) (x y : Int) (s : Nat) : stt f (ended f L x s) y = if y = x ∧ stt f L x = 1 then s else stt f L y := by
  unfold ended
  by_cases h : stt f L x = 1
  · have hlo : f ≤ x := by
      by_cases hx : x < f
      · rw [stt_lo hx] at h; omega
      · omega
    have hhi : x < f + L.length := by
      by_cases hx : f + L.length ≤ x
      · rw [stt_hi hx] at h; omega
      · omega
    rw [if_pos h]
    by_cases hy : y < f
    · rw [stt_lo hy, stt_lo hy, if_neg (by omega)]
    · have hy' : f ≤ y := by omega
      rw [stt_in (L := L.set (x - f).toNat s) hy', getD_set]
      by_cases e : y = x
      · rw [if_pos ⟨by omega, by omega⟩, if_pos ⟨e, h⟩]
      · rw [if_neg (by omega), if_neg (fun q => e q.1), stt_in hy']
  · rw [if_neg h, if_neg (fun q => h q.2)]
theorem length_ended (f : Int) (L : List Nat) (x : Int) (s : Nat) : (ended f L x s).length = L.length := by
  unfold ended; split <;> simp
theorem running_snoc (f : Int) (L : List Nat) : (running f (L ++ [1])).length = (running f L).length + 1 := by
  rw [running_count, running_count, List.count_append]; rfl
theorem running_ended (f : Int) (L : List Nat) (x : Int) (s : Nat) (hs : s ≠ 1) : (running f (ended f L x s)).length + (if stt f L x = 1 then 1 else 0) = (running f L).length := by
  unfold ended
  by_cases h : stt f L x = 1
  · have hlo : f ≤ x := by
      by_cases hx : x < f
      · rw [stt_lo hx] at h; omega
      · omega
    have hhi : x < f + L.length := by
      by_cases hx : f + L.length ≤ x
      · rw [stt_hi hx] at h; omega
      · omega
    rw [if_pos h, if_pos h]
    rw [stt_in hlo] at h
    exact running_set f L _ s (by omega) h hs
  · rw [if_neg h, if_neg h, Nat.add_zero]

theorem running_ones (f : Int) (n : Nat) : (running f (List.replicate n 1)).length = n := by
  unfold running
  rw [List.length_map, List.length_replicate, List.filter_eq_self.2]
  · simp
  · intro i hi
    have : i < n := by simpa using hi
    simp [List.getD_eq_getElem?_getD, this]
theorem stt_ones (f : Int) (n : Nat) (x : Int) (h1 : f ≤ x) (h2 : x < f + n) : stt f (List.replicate n 1) x = 1 := by
  have h3 : (x - f).toNat < n := by omega
  rw [stt_in h1]
  simp [List.getD_eq_getElem?_getD, h3]

set_option maxHeartbeats 1000000 in
set_option maxRecDepth 100000 in
theorem clogEnds_any (a b : Int) (w : World) (ha : 0 ≤ a) (hb : 0 ≤ b) :
    Calls Try.prog 3 #[.int .u8 a, .int .u8 b] w fun e w' => e = .returned (.bool true) ∧ Below w.heap.size w w' := by
  go_enter Try.func3, Try.ntmps3
  go_wp2_with fail
  refine (awake_nine w).mono ?_
  rintro e w1 ⟨rfl, b1⟩
  go_wp2_with fail
  refine (new_own (1099511627776 - a % 20) w1 (by omega) (by omega)).mono ?_
  rintro e w2 ⟨rfl, l2, b2⟩
  go_wp2_with fail
  go_loopw [30] (fun i wr => ∃ j m : Nat, i = .int .u64 j ∧ (m : Int) ≤ a % 20 + 1 ∧ ((m : Int) = j ∨ m < j ∧ (m : Int) = a % 20 + 1) ∧ (j : Int) ≤ a % 20 + 1 + b % 5 ∧
      LogAt (own w1.heap.size) 1 wr w1.heap.size (1099511627776 - a % 20) (List.replicate m 1) ∧ Below w1.heap.size w1 wr) (fun i _ => 25 - (intOf i).toNat)
  case atStart => exact ⟨0, 0, rfl, by omega, by omega, by omega, l2, b2⟩
  case round =>
    obtain ⟨j, m, rfl, hm, hj, hjn, l3, b3⟩ := hrel
    have hz := b3.size
    have hlen : ((List.replicate m 1).length : Int) = m := by simp
    by_cases hlt : (j : Int) < a % 20 + 1 + b % 5
    · by_cases hle : (j : Int) ≤ a % 20
      · obtain rfl : m = j := by omega
        have hq : (1099511627776 - a % 20 + (m : Int) != 1099511627776 - a % 20 + m) = false := by simp
        have HL := Lib.hid hlen; clear hlen hj
        go_wp2_with (go_at_call 18; refine (begin_own l3 (by rw [HL.out]; omega) hz).mono ?_; rw [HL.out]; rintro e w4 ⟨rfl, l4, b4⟩)
        go_roundw
        case rel => exact ⟨m + 1, m + 1, by go_num, by omega, by omega, by omega, by rw [List.replicate_succ']; exact l4, b3.trans b4⟩
        case measure => simp [intOf]; omega
      · have hm2 : (m : Int) = a % 20 + 1 := by omega
        have hgt : decide (a % 20 < (j : Int)) = true := by simp; omega
        have HL := Lib.hid hlen; clear hlen
        have HM := Lib.hid hm2; clear hm2
        go_wp2_with (go_at_call 18; refine (begin_full l3 (by have := HM.out; rw [HL.out]; omega)).mono ?_; rintro e w4 ⟨rfl, n, rfl⟩)
        go_roundw
        case rel => exact ⟨j + 1, m, by go_num, by omega, by have := HM.out; omega, by omega, l3.drewN n, b3.trans (Upd.below (S := fun _ => False) (Upd.of_drewN n) hz (fun _ _ x => x))⟩
        case measure => simp [intOf]; omega
    · have hm2 : (m : Int) = a % 20 + 1 := by omega
      have hjj : ¬ ((j : Int) < a % 20 + 1 + b % 5) := hlt
      have hro := running_ones (1099511627776 - a % 20) m
      have HM := Lib.hid hm2; clear hm2
      have HO := Lib.hid hro; clear hro
      clear hj hlen
      go_wp2_with fail
      refine (all_at l3).mono ?_
      rintro e w5 ⟨v, rfl, own5, b5⟩
      rw [HO.out] at own5
      obtain ⟨a5, cap, rfl⟩ := ownsRow_slice own5
      have l5 := l3.same b5
      clear own5
      have hq : ((m : Int) == a % 20 + 1) = true := by rw [beq_iff_eq]; exact HM.out
      go_wp2_with fail
      have hn1 : 1099511627776 - a % 20 + ((List.replicate m 1).length : Int) = 1099511627777 := by have := HM.out; simp; omega
      have hs1 : stt (1099511627776 - a % 20) (List.replicate m 1) 1099511627776 = 1 := stt_ones _ _ _ (by omega) (by have := HM.out; omega)
      have hs2 : stt (1099511627776 - a % 20) (List.replicate m 1) 1099511627777 = 0 := stt_hi (by rw [hn1]; decide)
      refine (next_at l5).mono ?_
      rw [hn1]
      rintro e w6 ⟨rfl, n6, rfl⟩
      have HN := Lib.hid hn1; clear hn1
      have H1 := Lib.hid hs1; clear hs1
      have H2 := Lib.hid hs2; clear hs2
      go_wp2_with fail
      refine (state_at (l5.drewN n6) _).mono ?_
      rw [H1.out]
      rintro e w7 ⟨rfl, n7, rfl⟩
      go_wp2_with fail
      refine (state_at (l5.drewN _) _).mono ?_
      rw [H2.out]
      rintro e w8 ⟨rfl, n8, rfl⟩
      go_wp2_with fail
      go_ret
      refine ⟨rfl, ?_⟩
      have t1 : Below w1.heap.size w1 w5 := b3.trans (b5.mono hz)
      have t2 : Below w.heap.size w w5 := b1.trans (t1.mono b1.size)
      exact Upd.below (S := fun b => w.heap.size ≤ b) (Upd.drewN (Upd.of_below t2 (fun b _ h => h)) _) (Nat.le_refl _) (fun b hb h => absurd hb (Nat.not_lt_of_le h))
end Go.Proofs.Ytdohkjpapmkhjaa
