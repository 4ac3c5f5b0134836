/- row.Read of numbers, behind row.right. No condition but what row.right answers. · row.take of a number. · key.Bytes of one number. No condition but what cell.Right answers. No conditions. -/
import Derived.Test.YtnkjnclpakfgnaaGreatDoorMb1
import Derived.Test.YtnkjnclpakfgnaaGreatDoorMb3
import Derived.StillTailTactics
import Derived.Deep.Cut
import Derived.Test.YtnkjnclpakfgnaaGreatDoorMc1
namespace Go.Proofs.YtnkjnclpakfgnaaGreatDoor
open Go.RowKit
set_option maxRecDepth 100000

theorem wrap_i64 (x : Int) : ∃ q : Int, IntKind.i64.wrap x = x - q * 18446744073709551616 ∧ -9223372036854775808 ≤ IntKind.i64.wrap x ∧ IntKind.i64.wrap x < 9223372036854775808 := by
  refine ⟨(x + 9223372036854775808) / 18446744073709551616, ?_⟩
  simp [IntKind.wrap, IntKind.signed, IntKind.bits]
  omega
theorem wrap_ofInt (x : Int) : BitVec.ofInt 64 (IntKind.i64.wrap x) = BitVec.ofInt 64 x := by
  obtain ⟨q, h, _⟩ := wrap_i64 x
  rw [h]
  apply BitVec.eq_of_toNat_eq
  rw [BitVec.toNat_ofInt, BitVec.toNat_ofInt]
  show ((x - q * 18446744073709551616) % (18446744073709551616 : Int)).toNat = (x % (18446744073709551616 : Int)).toNat
  congr 1
  omega
theorem or_i64 {A b j : Nat} (hA : A < 256 ^ j) (hb : b < 256) (hj : j < 8) :
    bits .or .i64 (IntKind.i64.wrap (A : Int)) (IntKind.i64.wrap ((b : Int) * 2 ^ (8 * j))) = IntKind.i64.wrap ((A + b * 256 ^ j : Nat) : Int) := by
  show IntKind.i64.wrap ((BitVec.ofInt 64 _ ||| BitVec.ofInt 64 _ : BitVec 64).toNat : Int) = _
  rw [wrap_ofInt, wrap_ofInt]
  have e1 : ((b : Int) * 2 ^ (8 * j)) = ((b * 2 ^ (8 * j) : Nat) : Int) := by simp
  have e2 : (256 : Nat) ^ j = 2 ^ (8 * j) := by rw [show (256 : Nat) = 2 ^ 8 by decide, ← Nat.pow_mul]
  rw [e1, BitVec.ofInt_natCast, BitVec.ofInt_natCast, BitVec.toNat_or, BitVec.toNat_ofNat, BitVec.toNat_ofNat]
  rw [e2] at hA ⊢
  have h8 : (2 : Nat) ^ (8 * j) * 256 ≤ 2 ^ 64 := by
    rw [show (256 : Nat) = 2 ^ 8 by decide, ← Nat.pow_add]
    exact Nat.pow_le_pow_right (by decide) (by omega)
  have hbl : b * 2 ^ (8 * j) < 2 ^ 64 := by
    have : b * 2 ^ (8 * j) + 2 ^ (8 * j) ≤ 2 ^ (8 * j) * 256 := by
      have : (b + 1) * 2 ^ (8 * j) ≤ 256 * 2 ^ (8 * j) := Nat.mul_le_mul_right _ (by omega)
      rw [Nat.add_mul, Nat.one_mul] at this; omega
    have : 0 < 2 ^ (8 * j) := Nat.two_pow_pos _
    omega
  have hAl : A < 2 ^ 64 := by
    have : (2 : Nat) ^ (8 * j) ≤ 2 ^ (8 * j) * 256 := by omega
    omega
  rw [Nat.mod_eq_of_lt hAl, Nat.mod_eq_of_lt hbl, Nat.or_comm, Nat.mul_comm b]
  rw [← Nat.two_pow_add_eq_or_of_lt hA, Nat.add_comm]
end Go.Proofs.YtnkjnclpakfgnaaGreatDoor
namespace Go.Proofs.YtnkjnclpakfgnaaGreatDoor
open Go.RowKit
set_option maxRecDepth 100000

set_option maxHeartbeats 4000000 in
theorem rtake_at {w : World} {pb po m cap x : Nat} (hm : 8 ≤ m) (hcap : m ≤ cap) (hx : x < 18446744073709551616) (hc : ∀ j, j < 8 → w.cell? ⟨pb, po + j, none⟩ = some (.int .u8 ((x / 256 ^ j % 256 : Nat) : Int))) :
    Calls Tryz.prog 101 #[.int .u8 1, .slice (some ⟨pb, po, none⟩) m cap] w fun e w' => (∃ ra, e = .returned (.tuple #[.agg #[.int .u8 1, .int .i64 (IntKind.i64.wrap (x : Int)), .string ⟨#[]⟩, .bool false], .slice ra (m - 8) (cap - 8), .bool true]) ∧ (8 < cap → ra = some ⟨pb, po + 8, none⟩)) ∧ Below w.heap.size w w' := by
  have HC := Lib.hid hc
  clear hc
  go_enter Tryz.func101, Tryz.ntmps101
  go_wp2_with fail
  obtain ⟨wq, hwq⟩ : ∃ wq, wq = (w.alloc (.cells #[.int .u8 0, .int .i64 0, .string ⟨#[]⟩, .bool false] 60)).alloc (.cells #[.int .u8 1, .int .i64 0, .string ⟨#[]⟩, .bool false] 60) := ⟨_, rfl⟩
  rw [← hwq]
  obtain ⟨t, ht⟩ : ∃ t, t = w.heap.size := ⟨_, rfl⟩
  rw [← ht]
  have hal : Below w.heap.size w wq := by subst hwq; exact ((Below.refl _ _).alloc (Nat.le_refl _) _).alloc (by simp) _
  have hT0 : wq.heap[t]? = some (.cells #[.int .u8 0, .int .i64 0, .string ⟨#[]⟩, .bool false] 60 (0, 0)) := by subst hwq; subst ht; exact block_alloc (heap_new1 w _) _
  have hT1 : wq.heap[t + 1]? = some (.cells #[.int .u8 1, .int .i64 0, .string ⟨#[]⟩, .bool false] 60 (0, 0)) := by
    subst hwq; subst ht
    have := heap_new1 (w.alloc (.cells #[.int .u8 0, .int .i64 0, .string ⟨#[]⟩, .bool false] 60)) (.cells #[.int .u8 1, .int .i64 0, .string ⟨#[]⟩, .bool false] 60)
    simpa using this
  have HT := Lib.hid ht; have HAL := Lib.hid hal; have H0 := Lib.hid hT0; have H1 := Lib.hid hT1
  clear ht hwq hal hT0 hT1
  go_loopw [18] (fun iv wr => ∃ j : Nat, j ≤ 8 ∧ iv = .int .i64 (j : Int) ∧ wr.heap[t + 1]? = some (.cells #[.int .u8 1, .int .i64 (IntKind.i64.wrap ((x % 256 ^ j : Nat) : Int)), .string ⟨#[]⟩, .bool false] 60 (0, 0)) ∧ Upd (fun b => b = t + 1) wq wr) (fun iv _ => 8 - (intOf iv).toNat)
  case atStart => exact ⟨0, Nat.zero_le _, rfl, by rw [H1.out]; simp [Nat.mod_one]; decide, Upd.refl _ _⟩
  case round =>
    obtain ⟨j, hj, rfl, hb, hU⟩ := hrel
    by_cases hj8 : j < 8
    · have c1 := cell_of_block hb (i := 1) rfl
      have f1 : wr.frozen? ⟨t + 1, 1, none⟩ = false := free_of_block hb
      have d := hU.cell (keeper HAL.out (HC.out j hj8)) (by
        intro e
        have h1 := World.block_lt_of_cell? _ _ (HC.out j hj8)
        have h2 := HT.out
        simp only at h1 e
        omega)
      obtain ⟨bt, hbt⟩ : ∃ bt : Nat, bt = x / 256 ^ j % 256 := ⟨_, rfl⟩
      rw [← hbt] at d
      obtain ⟨ac, hac⟩ : ∃ ac : Int, ac = IntKind.i64.wrap ((x % 256 ^ j : Nat) : Int) := ⟨_, rfl⟩
      rw [← hac] at c1 hb
      have hjm : (j : Int) < (m : Int) := by omega
      have hj0 : (0 : Int) ≤ (j : Int) := by omega
      have hb2 : (bt : Int) < 256 := by have := Nat.mod_lt (x / 256 ^ j) (show 0 < 256 by decide); omega
      have wb : IntKind.i64.wrap (bt : Int) = bt := IntWalk.i64_in _ (by omega)
      have w8 : IntKind.i64.wrap (8 * (j : Int)) = 8 * (j : Int) := IntWalk.i64_in _ (by omega)
      have hj8' : (j : Int) < 8 := by omega
      have hng : ¬ (8 * (j : Int)) < 0 := by omega
      have HBT := Lib.hid hbt; have HAC := Lib.hid hac
      clear hbt hac
      go_upto_region 9 with fail
      go_still_tail 12, (by kernel_rfl)
      change wpList _ _ _ _ _ wr.drew
      go_wp2_with fail
      have e2 : bits .or .i64 ac (wrap64 ((bt : Int) * 2 ^ (8 * j))) = IntKind.i64.wrap ((x % 256 ^ (j + 1) : Nat) : Int) := by
        have e3 : ∀ z : Int, wrap64 z = IntKind.i64.wrap z := fun z => by
          simp [wrap64, IntKind.wrap, IntKind.signed, IntKind.bits]
          split <;> omega
        rw [e3, HAC.out, or_i64 (Nat.mod_lt _ (Nat.pow_pos (by decide))) (by omega) hj8, HBT.out, Nat.mod_pow_succ, Nat.mul_comm (x / 256 ^ j % 256)]
      rw [e2]
      have hs := block_setCell (b := t + 1) (i := 1) (v := .int .i64 (IntKind.i64.wrap ((x % 256 ^ (j + 1) : Nat) : Int))) (show wr.drew.heap[t + 1]? = _ from hb)
      exact ⟨⟨j + 1, by omega, by go_num, hs, (hU.setCell _ (fun _ => rfl)).drew⟩, by simp [intOf]; omega⟩
    · obtain rfl : j = 8 := by omega
      rw [Nat.mod_eq_of_lt (show x < 256 ^ 8 from hx)] at hb
      have hT0 := hU.heap H0.out (by omega)
      have q0 := cell_of_block hb (i := 0) rfl
      have q1 := cell_of_block hb (i := 1) rfl
      have q2 := cell_of_block hb (i := 2) rfl
      have q3 := cell_of_block hb (i := 3) rfl
      have z0 := cell_of_block hT0 (i := 0) rfl
      have z1 := cell_of_block hT0 (i := 1) rfl
      have z2 := cell_of_block hT0 (i := 2) rfl
      have z3 := cell_of_block hT0 (i := 3) rfl
      have f0 : wr.frozen? ⟨t, 0, none⟩ = false := free_of_block hT0
      have f1 : wr.frozen? ⟨t, 1, none⟩ = false := free_of_block hT0
      have f2 : wr.frozen? ⟨t, 2, none⟩ = false := free_of_block hT0
      have f3 : wr.frozen? ⟨t, 3, none⟩ = false := free_of_block hT0
      have c8 : (8 : Int) ≤ (m : Int) := by omega
      have e64 : wrap64 (x : Int) = IntKind.i64.wrap (x : Int) := by
        simp [wrap64, IntKind.wrap, IntKind.signed, IntKind.bits]
        split <;> omega
      obtain ⟨W4, hW4⟩ : ∃ W4, W4 = ((((wr.setCell ⟨t, 0, none⟩ (.int .u8 1)).setCell ⟨t, 1, none⟩ (.int .i64 (wrap64 (x : Int)))).setCell ⟨t, 2, none⟩ (.string ⟨#[]⟩)).setCell ⟨t, 3, none⟩ (.bool false)).drew := ⟨_, rfl⟩
      have hb4 : W4.heap[t]? = some (.cells #[.int .u8 1, .int .i64 (IntKind.i64.wrap (x : Int)), .string ⟨#[]⟩, .bool false] 60 (0, 0)) := by
        rw [hW4, ← e64]
        have := block_setCell (i := 3) (v := .bool false) (block_setCell (i := 2) (v := .string ⟨#[]⟩) (block_setCell (i := 1) (v := .int .i64 (wrap64 (x : Int))) (block_setCell (i := 0) (v := .int .u8 1) hT0)))
        exact this
      have hB4 : Below w.heap.size w W4 := by
        have h1 : Upd (fun b => b = t + 1 ∨ b = t) wq W4 := by
          rw [hW4]
          exact (((((hU.mono (fun _ _ e => .inl e)).setCell (a := ⟨t, 0, none⟩) _ (fun _ => .inr rfl)).setCell (a := ⟨t, 1, none⟩) _ (fun _ => .inr rfl)).setCell (a := ⟨t, 2, none⟩) _ (fun _ => .inr rfl)).setCell (a := ⟨t, 3, none⟩) _ (fun _ => .inr rfl)).drew
        exact HAL.out.trans (h1.below HAL.out.size (fun b hb e => by have := HT.out; omega))
      have y0 := cell_of_block hb4 (i := 0) rfl
      have y1 := cell_of_block hb4 (i := 1) rfl
      have y2 := cell_of_block hb4 (i := 2) rfl
      have y3 := cell_of_block hb4 (i := 3) rfl
      have HW := Lib.hid hW4
      clear hW4 hb4 hT0 hb hU
      by_cases e8 : cap = 8
      · obtain rfl : m = 8 := by omega
        subst e8
        go_upto_region 11 with fail
        go_region
        go_wp2_with fail
        rw [← HW.out]
        exact bodyPost_ret (v := .tuple #[.agg #[.int .u8 1, .int .i64 (IntKind.i64.wrap (x : Int)), .string ⟨#[]⟩, .bool false], .slice (some ⟨pb, po, none⟩) 0 0, .bool true]) (by simp [results, Tryz.results101, go_sem, y0, y1, y2, y3]) rfl ⟨⟨_, rfl, fun e => absurd e (by omega)⟩, hB4⟩
      · go_upto_region 11 with fail
        go_region
        go_wp2_with fail
        rw [← HW.out]
        exact bodyPost_ret (v := .tuple #[.agg #[.int .u8 1, .int .i64 (IntKind.i64.wrap (x : Int)), .string ⟨#[]⟩, .bool false], .slice (some ⟨pb, po + 8, none⟩) (m - 8) (cap - 8), .bool true]) (by simp [results, Tryz.results101, go_sem, y0, y1, y2, y3]) rfl ⟨⟨_, rfl, fun _ => rfl⟩, hB4⟩
end Go.Proofs.YtnkjnclpakfgnaaGreatDoor
namespace Go.Proofs.YtnkjnclpakfgnaaGreatDoor
open Go.RowKit
set_option maxRecDepth 100000

theorem xor_nat {x : Nat} (h : x < 18446744073709551616) : x ^^^ 9223372036854775808 = (x + 9223372036854775808) % 18446744073709551616 := by
  have e : (9223372036854775808 : Nat) = 2 ^ 63 := by decide
  apply Nat.eq_of_testBit_eq
  intro i
  rw [Nat.testBit_xor, e, Nat.testBit_two_pow, show (18446744073709551616 : Nat) = 2 ^ 64 by decide, Nat.testBit_mod_two_pow]
  rcases Nat.lt_trichotomy i 63 with hi | rfl | hi
  · rw [decide_eq_true (show i < 64 by omega), Bool.true_and, Nat.add_comm, Nat.testBit_two_pow_add_gt hi]
    rw [decide_eq_false (show ¬ 63 = i by omega)]; simp
  · rw [Nat.add_comm, Nat.testBit_two_pow_add_eq]; simp
  · have : x < 2 ^ i := Nat.lt_of_lt_of_le h (by rw [show (18446744073709551616 : Nat) = 2 ^ 64 by decide]; exact Nat.pow_le_pow_right (by decide) (by omega))
    rw [Nat.testBit_lt_two_pow this, decide_eq_false (show ¬ 63 = i by omega), decide_eq_false (show ¬ i < 64 by omega)]; rfl
theorem xor_u64 {n : Int} (h1 : -9223372036854775808 ≤ n) (h2 : n < 9223372036854775808) : bits .xor .u64 (IntKind.u64.wrap n) 9223372036854775808 = (((n + 9223372036854775808).toNat : Nat) : Int) := by
  rw [wrap_u64]
  obtain ⟨x, hx⟩ : ∃ x : Nat, n % 18446744073709551616 = (x : Int) := ⟨(n % 18446744073709551616).toNat, by omega⟩
  have hlt : x < 18446744073709551616 := by omega
  show IntKind.u64.wrap ((BitVec.ofInt 64 _ ^^^ BitVec.ofInt 64 _ : BitVec 64).toNat : Int) = _
  rw [hx, show BitVec.ofInt 64 (x : Int) = BitVec.ofNat 64 x from BitVec.ofInt_natCast .., show BitVec.ofInt 64 (9223372036854775808 : Int) = BitVec.ofNat 64 9223372036854775808 from BitVec.ofInt_natCast ..]
  rw [BitVec.toNat_xor, BitVec.toNat_ofNat, BitVec.toNat_ofNat, Nat.mod_eq_of_lt (by omega), Nat.mod_eq_of_lt (by omega), xor_nat hlt, wrap_u64]
  omega
theorem keyB_take (n : Int) (j : Nat) (hj : j < 8) : (keyB n).take (9 - (j + 1)) ++ [(n + 9223372036854775808).toNat / 256 ^ j % 256] = (keyB n).take (9 - j) := by
  have e : 9 - j = (9 - (j + 1)) + 1 := by omega
  rw [e, List.take_add_one]
  congr 1
  have : (keyB n)[9 - (j + 1)]? = some ((n + 9223372036854775808).toNat / 256 ^ j % 256) := by
    unfold keyB
    rw [show 9 - (j + 1) = (7 - j) + 1 by omega, List.getElem?_cons_succ, List.getElem?_map, List.getElem?_range (by omega)]
    simp only [Option.map_some]
    rw [show 7 - (7 - j) = j by omega]
  rw [this]; rfl

set_option maxHeartbeats 4000000 in
theorem key_at {w : World} {b o cap : Nat} {n : Int} {R : World → Prop} (h1 : -9223372036854775808 ≤ n) (h2 : n < 9223372036854775808)
    (c0 : w.cell? ⟨b, o, none⟩ = some (.int .u8 1)) (c1 : w.cell? ⟨b, o + 1, none⟩ = some (.int .i64 n)) (c2 : w.cell? ⟨b, o + 2, none⟩ = some (.string ByteArray.empty)) (c3 : w.cell? ⟨b, o + 3, none⟩ = some (.bool false))
    (hc : Calls Tryz.prog 136 #[.agg #[.int .u8 1, .int .i64 n, .string ByteArray.empty, .bool false]] (w.alloc (.cells #[.int .u8 1, .int .i64 n, .string ByteArray.empty, .bool false] 60)) fun e w1 => e = .returned (.bool true) ∧ w1.heap[w.heap.size]? = some (.cells #[.int .u8 1, .int .i64 n, .string ByteArray.empty, .bool false] 60 (0, 0)) ∧ R w1) :
    Calls Tryz.prog 90 #[.slice (some ⟨b, o, none⟩) 1 cap] w fun e w2 => ∃ w1 v, R w1 ∧ e = .returned (.tuple #[v, .int .i64 0]) ∧ Bs w2 v (keyB n) ∧ Below w1.heap.size w1 w2 ∧ ∀ g, v.ownBlock = some g → w1.heap.size ≤ g := by
  obtain ⟨i0, hi, hz0, hz1, hz2⟩ := info_parts Tryz.info5
  have hx := xor_u64 h1 h2
  have HX := Lib.hid hx
  have HC := Lib.hid hc
  clear hx hc
  go_enter Tryz.func90, Tryz.ntmps90
  go_wp2_with fail
  go_loopw [4, 12] (fun ov i wr => (i = .int .i64 0 ∧ ov = .slice none 0 0 ∧ wr = w) ∨ (i = .int .i64 1 ∧ ∃ w1 : World, R w1 ∧ wr.ownsRow w1.heap.size 5 1 ov 9 (u8l (keyB n)) ∧ Below w1.heap.size w1 wr)) (fun _ i _ => 1 - (intOf i).toNat)
  case atStart => exact .inl ⟨rfl, rfl, rfl⟩
  case round =>
    rcases hrel with ⟨rfl, rfl, rfl⟩ | ⟨rfl, w1, hR, ho, hB⟩
    · have hb0 := heap_new1 wr (.cells #[.int .u8 1, .int .i64 n, .string ByteArray.empty, .bool false] 60)
      go_wp2_with (first | (go_at_call 136; (with_reducible refine HC.out.mono ?_); rintro e w1 ⟨rfl, hb1, hR⟩; have q0 := cell_of_block hb1 (i := 0) rfl; have q1 := cell_of_block hb1 (i := 1) rfl) | (at_builtin; refine wpList_append_mine rfl (.tmp 44) (.tmp 45) 23 rfl w1.heap.size 5 i0 (.int .u8 0) 1 1 Tryz.underlying23 hi hz0 hz1 hz2 rfl (by decide) (.slice none 0 0) 0 [] rfl (World.ownsRow_nil _ _ _ _) ⟨w1.heap.size, 0, none⟩ 1 1 [.int .u8 3] rfl rfl (cell_one_new _ _ _) (by simp [Value.oneCell']) (by unfold maxLen; omega) (by omega) (by simp) ?_; intro v5 w5 hown5 hupd5 hnew5; have q15 := hupd5.cell (keeper (below_alloc w1 _) q1) (by simp [Value.ownBlock])))
      have hB5 : Below w1.heap.size w1 w5 := (below_alloc w1 _).trans (hupd5.below (by simp) (fun g _ e => by simp [Value.ownBlock] at e))
      have hown5' : w5.ownsRow w1.heap.size 5 1 v5 (9 - 8) (u8l ((keyB n).take (9 - 8))) := hown5
      have H5 := Lib.hid hown5'
      clear hown5 hown5' hupd5 hnew5 q0 q1 q15 hb0 hb1
      go_loopw [4, 9] (fun ov2 iv wr2 => ∃ j : Nat, j ≤ 8 ∧ iv = .int .i64 ((j : Int) - 1) ∧ wr2.ownsRow w1.heap.size 5 1 ov2 (9 - j) (u8l ((keyB n).take (9 - j))) ∧ Below w1.heap.size w1 wr2) (fun _ iv _ => ((intOf iv) + 1).toNat)
      case atStart => exact ⟨8, Nat.le_refl _, by go_num, H5.out, hB5⟩
      case round =>
        obtain ⟨j, hj, rfl, ho, hB⟩ := hrel
        cases j with
        | zero =>
          go_wp2_with fail
          have e : (keyB n).take (9 - 0) = keyB n := List.take_of_length_le (by rw [keyB_length]; omega)
          rw [e] at ho
          exact ⟨.inr ⟨rfl, w1, hR, ho, hB⟩, by simp [intOf]⟩
        | succ j =>
          go_wp2_with (at_builtin; refine wpList_append_mine rfl (.tmp 55) (.tmp 61) 23 rfl w1.heap.size 5 i0 (.int .u8 0) 1 1 Tryz.underlying23 hi hz0 hz1 hz2 rfl (by decide) _ _ _ rfl (ownsRow_upd (S := fun _ => False) ho (Upd.same (below_alloc _ _)) (fun _ _ => id)) ⟨wr.heap.size, 0, none⟩ 1 1 [_] rfl rfl (cell_one_new _ _ _) (by simp [Value.oneCell']) (by unfold maxLen; omega) (by omega) (by have := hB.size; simp; omega) ?_; intro v6 w6 hown6 hupd6 hnew6)
          rw [HX.out, shr_byte] at hown6
          have e6 : u8l ((keyB n).take (9 - (j + 1))) ++ [Value.int .u8 (((n + 9223372036854775808).toNat / 256 ^ j % 256 : Nat) : Int)] = u8l ((keyB n).take (9 - j)) := by
            rw [← keyB_take n j (by omega), u8l_append]; rfl
          rw [e6, show 9 - (j + 1) + 1 = 9 - j by omega] at hown6
          exact ⟨⟨j, by omega, rfl, hown6, (hB.trans ((below_alloc wr _).mono hB.size)).trans (hupd6.below (by have := hB.size; simp; omega) (fun g hg e => absurd (World.ownsRow.lt ho g e).1 (by omega)))⟩, by simp [intOf]⟩
    · go_wp2_with fail
      go_ret2
      have hl := (ho.1)
      refine ⟨w1, u4, hR, rfl, ?_, hB, fun g hg => (World.ownsRow.lt ho g hg).1⟩
      exact Bs.of_row ho (by rw [keyB_length]; omega) (keyB_lt n)
end Go.Proofs.YtnkjnclpakfgnaaGreatDoor
