/- row.Bytes of numbers, behind row.Fits. No condition but what row.Fits answers. · row.Read of numbers, behind row.right. No condition but what row.right answers. · The plugs of row.Bytes, row.Read, key.Bytes: what they call first is run. No conditions. -/
import Derived.Test.YtnkjnclpakfgnaaGreatDoorMc3
import Derived.Test.YtnkjnclpakfgnaaGreatDoorMk1
import Derived.Test.YtnkjnclpakfgnaaGreatDoorMc4
namespace Go.Proofs.YtnkjnclpakfgnaaGreatDoor
open Go.RowKit X
set_option maxRecDepth 100000

/-- lv reads as these numbers, as values. -/
def ValsC (w : World) (lv : Value) (ns : List Int) : Prop := ∃ b o cap, lv = .slice (some ⟨b, o, none⟩) ns.length cap ∧ b < w.heap.size ∧ ∀ (i : Nat) (n : Int), ns[i]? = some n →
  w.cell? ⟨b, o + i * 4, none⟩ = some (.int .u8 1) ∧ w.cell? ⟨b, o + i * 4 + 1, none⟩ = some (.int .i64 n) ∧ w.cell? ⟨b, o + i * 4 + 2, none⟩ = some (.string ByteArray.empty) ∧ w.cell? ⟨b, o + i * 4 + 3, none⟩ = some (.bool false)
theorem shr_i64 (n : Int) (k : Nat) (hk : k < 8) : n / 2 ^ (8 * k) % 256 = (((IntKind.u64.wrap n).toNat / 256 ^ k % 256 : Nat) : Int) := by
  rw [wrap_u64]
  have hk : k = 0 ∨ k = 1 ∨ k = 2 ∨ k = 3 ∨ k = 4 ∨ k = 5 ∨ k = 6 ∨ k = 7 := by omega
  rcases hk with rfl | rfl | rfl | rfl | rfl | rfl | rfl | rfl <;> simp <;> omega
theorem leB_succ (k x : Nat) : leB (k + 1) x = leB k x ++ [x / 256 ^ k % 256] := by simp [leB, List.range_succ]
theorem rowB_take {ns : List Int} {i : Nat} {n : Int} (h : ns[i]? = some n) : rowB (ns.take (i + 1)) = rowB (ns.take i) ++ leB 8 (IntKind.u64.wrap n).toNat := by
  rw [List.take_add_one, h]
  unfold rowB
  simp [List.flatMap_append]

theorem own_ne {w : World} {base n bx e T : Nat} {sz : Nat} {v : Value} {xs : List Value} {cs : Array Value} (h : w.ownsRow base e sz v n xs) (hb : w.heap[bx]? = some (.cells cs T (0, 0))) (hT : T ≠ e) : ∀ g, v.ownBlock = some g → g ≠ bx := fun g hg e => by
  rcases h.2 with ⟨rfl, _⟩ | ⟨g', cap, cur, rfl, _, hh, _⟩
  · simp [Value.ownBlock] at hg
  · cases hg; subst e; rw [hh] at hb; cases hb; exact hT rfl
set_option maxHeartbeats 4000000 in
theorem bytes_at {w : World} {kv lv : Value} {R : List Int → World → Prop}
    (hc : Calls Tryz.prog 186 #[kv, lv] w fun e w1 => e = .returned (.int .i64 0) ∧ ∃ ns : List Int, ns.length ≤ 8 ∧ ValsC w1 lv ns ∧ R ns w1) :
    Calls Tryz.prog 273 #[kv, lv] w fun e w2 => ∃ w1 ns v, R ns w1 ∧ e = .returned (.tuple #[v, .int .i64 0]) ∧ Bs w2 v (rowB ns) ∧ Below w1.heap.size w1 w2 ∧ ∀ g, v.ownBlock = some g → w1.heap.size ≤ g := by
  obtain ⟨i0, hi, hz0, hz1, hz2⟩ := info_parts Tryz.info5
  have HC := Lib.hid hc
  have hS := shr_i64
  have HS := Lib.hid hS
  clear hc hS
  go_enter Tryz.func273, Tryz.ntmps273
  go_wp2_with (go_at_call 186; (with_reducible refine HC.out.mono ?_); rintro e w1 ⟨rfl, ns, hn, hV, hR⟩; obtain ⟨b, o, cap, hlv, hbl, hcells⟩ := hV; subst hlv; have HV := Lib.hid hcells; clear hcells)
  have hown0 : (w1.alloc (.cells #[.int .u8 0] 5)).ownsRow w1.heap.size 5 1 (.slice (some ⟨w1.heap.size, 0, none⟩) 1 1) (1 + 8 * 0) (u8l (rowB (ns.take 0))) := ⟨rfl, .inr ⟨w1.heap.size, 1, #[.int .u8 0], rfl, Nat.le_refl _, heap_new1 w1 _, Nat.le_refl _, by decide, rfl, rfl⟩⟩
  have hB0 : Below w1.heap.size w1 (w1.alloc (.cells #[.int .u8 0] 5)) := below_alloc w1 _
  have H0 := Lib.hid hown0
  clear hown0
  go_loopw [7, 21] (fun ov iv wr => ∃ i : Nat, i ≤ ns.length ∧ iv = .int .i64 (i : Int) ∧ wr.ownsRow w1.heap.size 5 1 ov (1 + 8 * i) (u8l (rowB (ns.take i))) ∧ Below w1.heap.size w1 wr) (fun _ iv _ => ns.length - (intOf iv).toNat)
  case atStart => exact ⟨0, Nat.zero_le _, rfl, H0.out, hB0⟩
  case round =>
    clear hB0
    obtain ⟨i, hil, rfl, ho, hB⟩ := hrel
    by_cases hlt : i < ns.length
    · obtain ⟨n, hn1⟩ : ∃ n, ns[i]? = some n := ⟨_, List.getElem?_eq_getElem hlt⟩
      obtain ⟨d0, d1, d2, d3⟩ := HV.out i n hn1
      have c0 := keeper hB d0
      have c1 := keeper hB d1
      have c2 := keeper hB d2
      have c3 := keeper hB d3
      clear d0 d1 d2 d3
      obtain ⟨bx, hbx⟩ : ∃ bx, bx = wr.heap.size := ⟨_, rfl⟩
      obtain ⟨wq, hwq⟩ : ∃ wq, wq = wr.alloc (.cells #[.int .u8 1, .int .i64 n, .string ByteArray.empty, .bool false] 60) := ⟨_, rfl⟩
      have hb0 : wq.heap[bx]? = some (.cells #[.int .u8 1, .int .i64 n, .string ByteArray.empty, .bool false] 60 (0, 0)) := by subst hwq; subst hbx; exact heap_new1 wr _
      have q0 := cell_of_block hb0 (i := 0) rfl
      have hal : Below wr.heap.size wr wq := by subst hwq; exact below_alloc wr _
      have hoq : wq.ownsRow w1.heap.size 5 1 u7 (1 + 8 * i) (u8l (rowB (ns.take i))) := ownsRow_upd (S := fun _ => False) ho (Upd.same hal) (fun _ _ => id)
      have hBq : Below w1.heap.size w1 wq := hB.trans (hal.mono hB.size)
      obtain ⟨x, hx⟩ : ∃ x, x = (IntKind.u64.wrap n).toNat := ⟨_, rfl⟩
      have HX := Lib.hid hx
      have HN1 := Lib.hid hn1
      have HOQ := Lib.hid hoq
      have HBX := Lib.hid hbx
      have HWQ := Lib.hid hwq
      clear hbx hwq hx hn1 hoq ho hB
      go_upto_region 8 with fail
      rw [← HWQ.out, ← HBX.out]
      go_wp2_with fail
      clear q0 c0 c1 c2 c3 hal
      go_loopw [7, 45] (fun ov kv2 wr2 => ∃ k : Nat, k ≤ 8 ∧ kv2 = .int .i64 (k : Int) ∧ wr2.ownsRow w1.heap.size 5 1 ov (1 + 8 * i + k) (u8l (rowB (ns.take i) ++ leB k x)) ∧ Below w1.heap.size w1 wr2 ∧ wr2.heap[bx]? = some (.cells #[.int .u8 1, .int .i64 n, .string ByteArray.empty, .bool false] 60 (0, 0))) (fun _ kv2 _ => 8 - (intOf kv2).toNat)
      case atStart => exact ⟨0, Nat.zero_le _, rfl, by rw [show leB 0 x = [] from rfl, List.append_nil]; exact HOQ.out, hBq, hb0⟩
      case round =>
        clear hBq hb0
        obtain ⟨k, hk, rfl, ho, hB, hb⟩ := hrel
        by_cases hk8 : k < 8
        · have q1 := cell_of_block hb (i := 1) rfl
          have hne := own_ne ho hb (by decide)
          have HO := Lib.hid ho
          go_wp2_with (at_builtin; refine wpList_append_mine rfl (.tmp 48) (.tmp 55) 23 rfl w1.heap.size 5 i0 (.int .u8 0) 1 1 Tryz.underlying23 hi hz0 hz1 hz2 rfl (by decide) _ _ _ rfl (ownsRow_upd (S := fun _ => False) HO.out (Upd.same (below_alloc _ _)) (fun _ _ => id)) ⟨wr.heap.size, 0, none⟩ 1 1 [_] rfl rfl (cell_one_new _ _ _) (by simp [Value.oneCell']) (by unfold maxLen; omega) (by omega) (by have := hB.size; simp; omega) ?_; intro v6 w6 hown6 hupd6 hnew6)
          have e6 : u8l (rowB (ns.take i) ++ leB k x) ++ [Value.int .u8 (n / 2 ^ (8 * k) % 256)] = u8l (rowB (ns.take i) ++ leB (k + 1) x) := by
            rw [HS.out n k hk8, ← HX.out, leB_succ, ← List.append_assoc, u8l_append (rowB (ns.take i) ++ leB k x)]; rfl
          rw [e6] at hown6
          refine ⟨⟨k + 1, by omega, by go_num, hown6, (hB.trans ((below_alloc wr _).mono hB.size)).trans (hupd6.below (by have := hB.size; simp; omega) (fun g hg e => absurd (World.ownsRow.lt HO.out g e).1 (by omega))), ?_⟩, by simp [intOf]; omega⟩
          exact hupd6.heap ((Below.heap_alloc _ _ bx (lt_of_block hb)).trans hb) (fun e => hne bx e rfl)
        · obtain rfl : k = 8 := by omega
          go_wp2_with fail
          rw [HX.out, ← rowB_take HN1.out] at ho
          exact ⟨⟨i + 1, by omega, by go_num, ho, hB⟩, by simp [intOf]; omega⟩
    · obtain rfl : i = ns.length := by omega
      rw [List.take_length] at ho
      have HO := Lib.hid ho
      clear ho
      go_wp2_with fail
      go_ret2
      exact ⟨w1, ns, _, hR, rfl, Bs.of_row HO.out (by rw [rowB_length]; omega) (rowB_lt ns), hB, fun g hg => (World.ownsRow.lt HO.out g hg).1⟩
end Go.Proofs.YtnkjnclpakfgnaaGreatDoor
namespace Go.Proofs.YtnkjnclpakfgnaaGreatDoor
open Go.RowKit X
set_option maxRecDepth 100000

theorem Tryz.info60 : (Tryz.prog.info? 60).map (fun i => (i.zero, i.size, i.bytes)) = some (some (.agg #[.int .u8 0, .int .i64 0, .string ⟨#[]⟩, .bool false]), 4, 40) := by kernel_rfl
/-- Numbers, as values' cells. -/
def valsV (ns : List Int) : List Value := ns.flatMap fun n => [Value.int .u8 1, .int .i64 n, .string ⟨#[]⟩, .bool false]
theorem valsV_snoc {ns : List Int} {i : Nat} {n : Int} (h : ns[i]? = some n) : valsV (ns.take (i + 1)) = valsV (ns.take i) ++ [Value.int .u8 1, .int .i64 n, .string ⟨#[]⟩, .bool false] := by
  rw [List.take_add_one, h]; simp [valsV]
/-- kv reads as n times the kind of numbers. -/
def KindsC (w : World) (kv : Value) (n : Nat) : Prop := ∃ b o cap, kv = .slice (some ⟨b, o, none⟩) n cap ∧ ∀ i, i < n → w.cell? ⟨b, o + i, none⟩ = some (.int .u8 1)
theorem rowB_at {ns : List Int} {i j : Nat} {n : Int} (h : ns[i]? = some n) (hj : j < 8) : (rowB ns)[1 + 8 * i + j]? = some ((IntKind.u64.wrap n).toNat / 256 ^ j % 256) := by
  induction ns generalizing i with
  | nil => cases h
  | cons m ns ih =>
    cases i with
    | zero =>
      cases h
      unfold rowB
      rw [show 1 + 8 * 0 + j = j + 1 by omega, List.getElem?_cons_succ, List.flatMap_cons, List.getElem?_append_left (by simp; try omega)]
      simp [leB, hj]
    | succ i =>
      have := ih (i := i) h
      unfold rowB at this ⊢
      rw [show 1 + 8 * (i + 1) + j = (8 + (8 * i + j)) + 1 by omega, List.getElem?_cons_succ, List.flatMap_cons, List.getElem?_append_right (by simp; try omega)]
      rw [show 1 + 8 * i + j = (8 * i + j) + 1 by omega, List.getElem?_cons_succ] at this
      rw [show 8 + (8 * i + j) - (leB 8 (IntKind.u64.wrap m).toNat).length = 8 * i + j by simp]
      exact this
theorem i64_u64 {n : Int} (h1 : -9223372036854775808 ≤ n) (h2 : n < 9223372036854775808) : IntKind.i64.wrap (((IntKind.u64.wrap n).toNat : Nat) : Int) = n := by
  rw [wrap_u64]
  simp [IntKind.wrap, IntKind.signed, IntKind.bits]
  split <;> omega

set_option maxHeartbeats 8000000 in
theorem read_at {w : World} {kv : Value} {b o cap K : Nat} {R : List Int → World → Prop} (hn0 : 1 ≤ K) (hKn : K ≤ 8)
    (hc : Calls Tryz.prog 100 #[kv] w fun e w1 => e = .returned (.bool true) ∧ ∃ ns : List Int, K = ns.length ∧ 1 + 8 * K ≤ cap ∧ (∀ n ∈ ns, -9223372036854775808 ≤ n ∧ n < 9223372036854775808) ∧ KindsC w1 kv K ∧ (∀ (i x : Nat), (rowB ns)[i]? = some x → w1.cell? ⟨b, o + i, none⟩ = some (.int .u8 (x : Int))) ∧ R ns w1) :
    Calls Tryz.prog 71 #[kv, .slice (some ⟨b, o, none⟩) (1 + 8 * K) cap] w fun e w2 => ∃ w1 ns v, R ns w1 ∧ e = .returned (.tuple #[v, .int .i64 0]) ∧ w2.ownsRow w1.heap.size 60 4 v K (valsV ns) ∧ Below w1.heap.size w1 w2 := by
  obtain ⟨i0, hi, hz0, hz1, hz2⟩ := info_parts Tryz.info60
  have HC := Lib.hid hc
  clear hc
  obtain ⟨N, hN⟩ : ∃ N, N = 1 + 8 * K := ⟨_, rfl⟩
  rw [← hN]
  have n1 : (0 : Int) < (N : Int) := by omega
  have n2 : ((N : Int) == 0) = false := by rw [beq_eq_false_iff_ne]; omega
  have n3 : decide (200 < (N : Int)) = false := by simp; omega
  have c1 : (1 : Int) ≤ (N : Int) := by omega
  have HN := Lib.hid hN
  clear hN
  go_enter Tryz.func71, Tryz.ntmps71
  go_wp2_with (go_at_call 100; (with_reducible refine HC.out.mono ?_); rintro e w1 ⟨rfl, ns, hK0, hcp, hr, hK, hcells, hR⟩; have e1 : ¬ cap = 1 := (by omega); have HK := Lib.hid hK0; have HR := Lib.hid hr; clear hK0 hr; obtain ⟨kb, ko, kcap, hkv, hkc⟩ := hK; subst hkv; have d0 : w1.cell? ⟨b, o, none⟩ = some (.int .u8 0) := hcells 0 0 rfl)
  go_quiet (fail)
  go_wp2_with fail
  have HCL := Lib.hid hcells; have HKC := Lib.hid hkc
  clear hcells hkc d0
  have hB0 : Below w1.heap.size w1 (w1.drewN nq) := below_drewN
  have hN8 : N - 1 = 8 * (K - 0) := by rw [HN.out]; omega
  have HN8 := Lib.hid hN8
  clear hN8 n1 n2 n3 c1 e1
  go_loopw [7, 8, 41] (fun rv ov iv wr => ∃ i : Nat, i ≤ K ∧ iv = .int .i64 (i : Int) ∧ (∃ ra, rv = .slice ra (8 * (K - i)) (cap - 1 - 8 * i) ∧ (i < K → ra = some ⟨b, o + 1 + 8 * i, none⟩)) ∧ wr.ownsRow w1.heap.size 60 4 ov i (valsV (ns.take i)) ∧ Below w1.heap.size w1 wr) (fun _ _ iv _ => K - (intOf iv).toNat)
  case atStart => exact ⟨0, Nat.zero_le _, rfl, ⟨_, by rw [← HN8.out]; rfl, fun _ => rfl⟩, World.ownsRow_nil _ _ _ _, hB0⟩
  case round =>
    clear hB0
    obtain ⟨i, hi2, rfl, ⟨ra, rfl, hra⟩, ho, hB⟩ := hrel
    by_cases hlt : i < K
    · obtain rfl := hra hlt
      obtain ⟨n, hn1⟩ : ∃ n, ns[i]? = some n := ⟨_, List.getElem?_eq_getElem (by rw [← HK.out]; exact hlt)⟩
      have hk := keeper hB (HKC.out i hlt)
      obtain ⟨h1, h2⟩ := HR.out n (List.mem_of_getElem? hn1)
      obtain ⟨x, hx⟩ : ∃ x, x = (IntKind.u64.wrap n).toNat := ⟨_, rfl⟩
      have hxl : x < 18446744073709551616 := by rw [hx, wrap_u64]; omega
      have hxw : IntKind.i64.wrap (x : Int) = n := by rw [hx]; exact i64_u64 h1 h2
      obtain ⟨bx, hbx⟩ : ∃ bx, bx = wr.heap.size := ⟨_, rfl⟩
      obtain ⟨wq, hwq⟩ : ∃ wq, wq = wr.alloc (.cells #[.int .u8 0, .int .i64 0, .string ⟨#[]⟩, .bool false] 60) := ⟨_, rfl⟩
      have hal : Below wr.heap.size wr wq := by subst hwq; exact below_alloc wr _
      have hb0 : wq.heap[bx]? = some (.cells #[.int .u8 0, .int .i64 0, .string ⟨#[]⟩, .bool false] 60 (0, 0)) := by subst hwq; subst hbx; exact heap_new1 wr _
      have hcl : ∀ j, j < 8 → wq.cell? ⟨b, o + 1 + 8 * i + j, none⟩ = some (.int .u8 ((x / 256 ^ j % 256 : Nat) : Int)) := fun j hj => by
        have e := rowB_at hn1 hj
        rw [← hx] at e
        have := keeper hal (keeper hB (HCL.out _ _ e))
        rw [show o + (1 + 8 * i + j) = o + 1 + 8 * i + j by omega] at this
        exact this
      have htk := rtake_at (w := wq) (m := 8 * (K - i)) (cap := cap - 1 - 8 * i) (by omega) (by omega) hxl hcl
      rw [hxw] at htk
      have hoq : wq.ownsRow w1.heap.size 60 4 u8 i (valsV (ns.take i)) := ownsRow_upd (S := fun _ => False) ho (Upd.same hal) (fun _ _ => id)
      have hBq : Below w1.heap.size w1 wq := hB.trans (hal.mono hB.size)
      have hne : ∀ g, u8.ownBlock = some g → g < bx ∧ w1.heap.size ≤ g := fun g e => by have := World.ownsRow.lt ho g e; omega
      have HNE := Lib.hid hne
      have hw1 : w1.heap.size ≤ bx := by rw [hbx]; exact hB.size
      have HW1 := Lib.hid hw1
      clear hw1
      clear hne
      have HTK := Lib.hid htk; have HOQ := Lib.hid hoq; have HB0 := Lib.hid hb0; have HBQ := Lib.hid hBq; have HN1 := Lib.hid hn1; have HWQ := Lib.hid hwq; have HBX := Lib.hid hbx
      have hbw : wr.heap.size < wq.heap.size := by rw [hwq]; simp
      clear htk hoq hb0 hBq hn1 hcl hal hx hxl hxw ho hB h1 h2 hwq hbx
      go_upto_region 11 with fail
      rw [← HWQ.out, ← HBX.out]
      go_wp2_with fail
      refine HTK.out.mono ?_
      rintro e w3 ⟨⟨ra, rfl, hra2⟩, hB3⟩
      have hb3 := (Upd.same (S := fun _ => False) hB3).heap HB0.out id
      have z0 := cell_of_block hb3 (i := 0) rfl
      have z1 := cell_of_block hb3 (i := 1) rfl
      have z2 := cell_of_block hb3 (i := 2) rfl
      have z3 := cell_of_block hb3 (i := 3) rfl
      have f0 : w3.frozen? ⟨bx, 0, none⟩ = false := free_of_block hb3
      have f1 : w3.frozen? ⟨bx, 1, none⟩ = false := free_of_block hb3
      have f2 : w3.frozen? ⟨bx, 2, none⟩ = false := free_of_block hb3
      have f3 : w3.frozen? ⟨bx, 3, none⟩ = false := free_of_block hb3
      have HB3 := Lib.hid hb3
      clear hb3 hk
      go_upto_region 13 with fail
      obtain ⟨W4, hW4⟩ : ∃ W4, W4 = (((w3.setCell ⟨bx, 0, none⟩ (.int .u8 1)).setCell ⟨bx, 1, none⟩ (.int .i64 n)).setCell ⟨bx, 2, none⟩ (.string ⟨#[]⟩)).setCell ⟨bx, 3, none⟩ (.bool false) := ⟨_, rfl⟩
      rw [← hW4]
      have hb4 : W4.heap[bx]? = some (.cells #[.int .u8 1, .int .i64 n, .string ⟨#[]⟩, .bool false] 60 (0, 0)) := by
        rw [hW4]
        exact block_setCell (i := 3) (v := .bool false) (block_setCell (i := 2) (v := .string ⟨#[]⟩) (block_setCell (i := 1) (v := .int .i64 n) (block_setCell (i := 0) (v := .int .u8 1) HB3.out)))
      have hU4 : Upd (fun g => g = bx) w3 W4 := by
        rw [hW4]
        exact ((((Upd.refl (fun g => g = bx) w3).setCell (a := ⟨bx, 0, none⟩) _ (fun _ => rfl)).setCell (a := ⟨bx, 1, none⟩) _ (fun _ => rfl)).setCell (a := ⟨bx, 2, none⟩) _ (fun _ => rfl)).setCell (a := ⟨bx, 3, none⟩) _ (fun _ => rfl)
      have ho4 : W4.ownsRow w1.heap.size 60 4 u8 i (valsV (ns.take i)) := ownsRow_upd (ownsRow_upd (S := fun _ => False) HOQ.out (Upd.same hB3) (fun _ _ => id)) hU4 (fun g e h => by have := (HNE.out g e).1; omega)
      have hB4 : Below w1.heap.size w1 W4 := (HBQ.out.trans (hB3.mono HBQ.out.size)).trans (hU4.below (Nat.le_trans HBQ.out.size hB3.size) (fun g hg e => by have := HW1.out; omega))
      have y0 := cell_of_block hb4 (i := 0) rfl
      have y1 := cell_of_block hb4 (i := 1) rfl
      have y2 := cell_of_block hb4 (i := 2) rfl
      have y3 := cell_of_block hb4 (i := 3) rfl
      have HO4 := Lib.hid ho4; have HB4 := Lib.hid hB4
      clear hW4 hb4 hU4 ho4 hB4 z0 z1 z2 z3 f0 f1 f2 f3 hB3
      have hnew : ∀ (j : Nat) (u : Value), [Value.int .u8 1, .int .i64 n, .string ⟨#[]⟩, .bool false][j]? = some u → (W4.alloc (.cells #[.int .u8 1, .int .i64 n, .string ⟨#[]⟩, .bool false] 60)).cell? ((⟨W4.heap.size, 0, none⟩ : Addr).add j) = some u := fun j u hj => by
        rw [add_atn, Nat.zero_add]
        exact cell_of_block (heap_new1 W4 _) (by simpa using hj)
      have HNW := Lib.hid hnew
      clear hnew
      go_wp2_with (at_builtin; refine wpList_append_mine rfl (.tmp 61) (.tmp 63) 61 rfl w1.heap.size 60 i0 (.agg #[.int .u8 0, .int .i64 0, .string ⟨#[]⟩, .bool false]) 4 40 Tryz.underlying61 hi hz0 hz1 hz2 rfl (by decide) _ _ _ rfl (ownsRow_upd (S := fun _ => False) HO4.out (Upd.same (below_alloc _ _)) (fun _ _ => id)) ⟨W4.heap.size, 0, none⟩ 1 1 [.int .u8 1, .int .i64 n, .string ⟨#[]⟩, .bool false] rfl rfl HNW.out (by simp [Value.oneCell']) (by unfold maxLen; omega) (by omega) (by have := HB4.out.size; simp; omega) ?_; intro v6 w6 hown6 hupd6 hnew6)
      rw [← valsV_snoc HN1.out] at hown6
      exact ⟨⟨i + 1, by omega, by go_num, ⟨ra, by rw [show 8 * (K - i) - 8 = 8 * (K - (i + 1)) by omega, show cap - 1 - 8 * i - 8 = cap - 1 - 8 * (i + 1) by omega], fun hh => by rw [hra2 (by omega), show o + 1 + 8 * i + 8 = o + 1 + 8 * (i + 1) by omega]⟩, hown6, (HB4.out.trans ((below_alloc W4 _).mono HB4.out.size)).trans (hupd6.below (by have := HB4.out.size; simp; omega) (fun g hg e => absurd (HNE.out g e).2 (by omega)))⟩, by simp [intOf]; omega⟩
    · obtain rfl : i = K := by omega
      have e : ns.take i = ns := List.take_of_length_le (by rw [← HK.out]; exact Nat.le_refl _)
      rw [e] at ho
      have HO := Lib.hid ho
      clear ho
      go_wp2_with fail
      go_ret2
      exact ⟨w1, ns, _, hR, rfl, HO.out, hB⟩
end Go.Proofs.YtnkjnclpakfgnaaGreatDoor
namespace Go.Proofs.YtnkjnclpakfgnaaGreatDoor
namespace X
open Go.RowKit

section
noncomputable def bdOk (bd : List (Nat × Nat)) (v : V) : Bool := (bdV bd v).rec false (fun z => Nat.blt z 2305843009213693952)
noncomputable def isT (v : V) : Bool := match v with
  | .bool b => b
  | _ => false
noncomputable def qKey2 (k : V) (s : SM) : Option (V × SM) := match s with
  | ⟨H, nx, ⟨h, t, tr, dt, ky, ns, bd, sm⟩⟩ => fN (nx + 1) fun nx' => some (.tup [.bs nx 9, z0], ⟨H, nx', ⟨h, t, tr, dt, (nx, k) :: ky, ns, bd, sm⟩⟩)
noncomputable def qKey (cf : CF MM) (args : List V) (s : SM) : Option (V × SM) := match args with
  | [l] => ob (srcCells s 0 4 l) fun d => ck (Nat.beq d.1 1) (ob (numsM d.2 1) fun r => ob (lget 0 r) fun k => ck (bdOk s.m.bd k) (ob (cf 136 [.agg d.2] s) fun q => ck (isT q.1) (qKey2 k q.2)))
  | _ => none
noncomputable def qBytes2 (vs : List V) (n : Nat) (s : SM) : Option (V × SM) := match s with
  | ⟨H, nx, ⟨h, t, tr, dt, ky, ns, bd, sm⟩⟩ => ck (allB (bdOk bd) vs) (fN (1 + 8 * n) fun n => fN (nx + 1) fun nx' => some (.tup [.bs nx n, z0], ⟨H, nx', ⟨h, t, tr, (nx, vs) :: dt, ky, ns, bd, sm⟩⟩))
noncomputable def isZ (v : V) : Bool := match v with
  | .int j (.ofNat c) => an (Nat.beq (kno j) 3) (Nat.beq c 0)
  | _ => false
noncomputable def qBytes (cf : CF MM) (args : List V) (s : SM) : Option (V × SM) := match args with
  | [ks, l] => ob (cf 186 [ks, l] s) fun q => ck (isZ q.1) (ob (srcCells q.2 0 4 l) fun d => ck (Nat.blt 0 d.1) (ck (Nat.ble d.1 8) (ob (numsM d.2 d.1) fun vs => qBytes2 vs d.1 q.2)))
  | _ => none
noncomputable def qRead (vt : Nat) (cf : CF MM) (args : List V) (s : SM) : Option (V × SM) := match args with
  | [ks, .bs d len] => ob (cf 100 [ks] s) fun q => ck (isT q.1) (ob (srcCells q.2 0 1 ks) fun c => ck (Nat.blt 0 c.1) (ck (Nat.ble c.1 8) (ck (Nat.beq len (1 + 8 * c.1)) (ck (allB kind1 c.2) (ob (lkp d q.2.m.dt) fun vs => ck (Nat.beq (llen vs) c.1) (ob (valsM vs) fun r =>
      ob (newB q.2 (.grow vt 4 r) (.sg q.2.nx 0 4 c.1)) fun x => some (.tup [x.1, z0], x.2)))))))
  | _ => none
end

section
variable {I : Inv} {K : Keep} {E : Env} {w : World} {s : S I.M}
/-- What stays, told anew. -/
theorem Sim.reK {K' : Keep} {H : T O} {nx : Nat} {m : I.M} (h : Sim I K E H nx m w) (ho : K'.os = K.os) (ht : K'.tape = K.tape) (hp : K'.output = K.output) (hz : K'.size ≤ w.heap.size) (hf : ∀ b ob, K'.G b = some ob → w.heap[b]? = some ob)
    (ha : ∀ {id o b c}, Live H id o → E.blk id = some (b, c) → K'.G b = none) (hi : ∃ F, I.inv m E w F ∧ (∀ b, F b → K'.G b = none) ∧ ∀ {id o b c}, Live H id o → E.blk id = some (b, c) → ¬ F b) : Sim I K' E H nx m w :=
  { os := h.os.trans ho.symm, tape := h.tape.trans ht.symm, output := h.output.trans hp.symm, size := hz, fresh := h.fresh, low := h.low, top := h.top, glob := h.glob, heap := h.heap, inj := h.inj,
    frame := fun g => hf _ _ g, apart := fun l e => ha l e, inv := hi }
/-- A block more that stays. -/
theorem Sim.box {H : T O} {nx : Nat} {m : I.M} (hS : Sim I K E H nx m w) (box : Obj) : ∃ K' : Keep, K'.G w.heap.size = some box ∧ (∀ g, g ≠ w.heap.size → K'.G g = K.G g) ∧
    (∀ {E1 : Env} {H1 : T O} {nx1 : Nat} {m1 : I.M} {w1 : World}, Sim I K' E1 H1 nx1 m1 w1 → Sim I K E1 H1 nx1 m1 w1) ∧ Sim I K' E H nx m (w.alloc box) := by
  have hSb := hS.below (below_alloc w box)
  have hlt : ∀ {g : Nat} {x : Obj}, w.heap[g]? = some x → g ≠ w.heap.size := fun hb e => by rw [e, Array.getElem?_eq_none (Nat.le_refl _)] at hb; cases hb
  have hGn : K.G w.heap.size = none := by
    cases hx : K.G w.heap.size with
    | none => rfl
    | some x => exact absurd rfl (hlt (hS.frame hx))
  refine ⟨{ K with G := fun g => if g = w.heap.size then some box else K.G g }, if_pos rfl, fun g hg => if_neg hg, fun h1 => ?_, ?_⟩
  · obtain ⟨F, a, b, c⟩ := h1.inv
    have hc : ∀ g, (if g = w.heap.size then some box else K.G g) = none → K.G g = none := fun g hg => by
      by_cases e : g = w.heap.size
      · rw [e]; exact hGn
      · rw [if_neg e] at hg; exact hg
    refine h1.reK rfl rfl rfl h1.size (fun g ob hg => h1.frame ?_) (fun l e => hc _ (h1.apart l e)) ⟨F, a, fun g hg => hc g (b g hg), c⟩
    show (if g = w.heap.size then some box else K.G g) = some ob
    rw [if_neg (fun e => by rw [e, hGn] at hg; cases hg)]; exact hg
  · obtain ⟨F, a, b, c⟩ := hS.inv
    refine hSb.reK rfl rfl rfl hSb.size (fun g ob hg => ?_) (fun {id o g c} l e => ?_) ⟨F, I.loc a (Env.le.refl E).sub rfl (by simp) (fun g hg => (Array.getElem?_push ..).trans (if_neg (Nat.ne_of_lt (I.lt a hg)))), fun g hg => ?_, c⟩
    · by_cases hgb : g = w.heap.size
      · have hg : (if g = w.heap.size then some box else K.G g) = some ob := hg
        rw [if_pos hgb] at hg; cases hg
        rw [hgb]; exact (Array.getElem?_push ..).trans (if_pos rfl)
      · have hg : (if g = w.heap.size then some box else K.G g) = some ob := hg
        rw [if_neg hgb] at hg; exact hSb.frame hg
    · obtain ⟨x, hx, _⟩ := hS.at l e
      exact (if_neg (hlt hx)).trans (hS.apart l e)
    · exact (if_neg (Nat.ne_of_lt (I.lt a hg))).trans (b g hg)
theorem src_at (hS : Sim I K E s.H s.nx s.m w) {sz n : Nat} {x : V} {X : Value} {r : List V} (h : srcCells s 0 sz x = some (n, r)) (hx : VR E x X) (hn : 0 < n) :
    ∃ b o cap cs, X = .slice (some ⟨b, o, none⟩) n cap ∧ VRs E r cs ∧ cs.length = n * sz ∧ ∀ j u, cs[j]? = some u → w.cell? ⟨b, o + j, none⟩ = some u := by
  unfold srcCells at h
  split at h <;> first | (cases h; done) | skip
  · cases h; omega
  · cases h; omega
  · rename_i id off len cap
    obtain ⟨r', hr, h⟩ := ob_eq h
    cases h; cases hx; rename_i b c hb
    obtain ⟨cs, e1, e2, e3⟩ := cellsAt_ok hS hr hb
    exact ⟨_, _, _, cs, rfl, e1, e2, e3⟩
  · rename_i id i sz' len
    obtain ⟨h2, h3⟩ := ck_eq h
    obtain ⟨r', hr, h4⟩ := ob_eq h3
    cases h4
    have h2 := Nat.eq_of_beq_eq_true h2; subst h2
    cases hx; rename_i b c hb hc
    obtain ⟨cs, e1, e2, e3⟩ := cellsAt_ok hS hr hb
    exact ⟨_, _, _, cs, rfl, e1, e2, e3⟩
theorem empty_of {S : ByteArray} (h : bytesN S = []) : S = ⟨#[]⟩ := by
  obtain ⟨⟨l⟩⟩ := S
  have h : l.map UInt8.toNat = [] := h
  have : l = [] := by simpa using h
  subst this; rfl
theorem numsM_succ (l : List V) (n : Nat) : numsM l (n + 1) = (match l with
  | k :: a :: .str [] :: .bool false :: l => ob (nK 4 k) fun k => ck (Nat.beq k 1) (ck (isI a) (ob (numsM l n) fun r => some (a :: r)))
  | _ => none) := rfl
theorem nums_ok : ∀ {n : Nat} {l : List V} {cs : List Value} {vs : List V}, numsM l n = some vs → VRs E l cs → ∃ ns : List Int, ns.length = n ∧ VRs E vs (ns.map (Value.int .i64)) ∧
    (∀ v ∈ vs, isI v = true) ∧ ∀ (i : Nat) (m : Int), ns[i]? = some m → cs[i * 4]? = some (.int .u8 1) ∧ cs[i * 4 + 1]? = some (.int .i64 m) ∧ cs[i * 4 + 2]? = some (.string ⟨#[]⟩) ∧ cs[i * 4 + 3]? = some (.bool false)
  | 0, l, cs, vs, h, _ => by
    cases h
    exact ⟨[], rfl, .nil, (fun v h => by cases h), fun i m h => by cases h⟩
  | n + 1, l, cs, vs, h, hv => by
    rw [numsM_succ] at h
    split at h <;> first | (cases h; done) | skip
    rename_i k a l
    obtain ⟨kk, hk, h⟩ := ob_eq h
    obtain ⟨h1, h⟩ := ck_eq h
    obtain ⟨h2, h⟩ := ck_eq h
    obtain ⟨r, hr, h⟩ := ob_eq h
    cases h
    obtain ⟨W1, m1, rfl, v1, hv⟩ := hv.head
    obtain ⟨W2, m2, rfl, v2, hv⟩ := hv.head
    obtain ⟨W3, m3, rfl, v3, hv⟩ := hv.head
    obtain ⟨W4, m4, rfl, v4, hv⟩ := hv.head
    obtain ⟨ns, q1, q2, q3, q4⟩ := nums_ok hr hv
    obtain rfl := nK_ok (k0 := .u8) hk v1
    obtain rfl : kk = 1 := Nat.eq_of_beq_eq_true h1
    obtain ⟨m, rfl⟩ := isI_ok h2 v2
    obtain ⟨S, rfl, hS⟩ := str_inv v3
    rw [empty_of hS]
    cases v4
    refine ⟨m :: ns, by simp [q1], .cons v2 q2, fun v hv => ?_, fun i x hx => ?_⟩
    · rcases List.mem_cons.1 hv with rfl | hv
      · exact h2
      · exact q3 v hv
    · cases i with
      | zero => cases hx; exact ⟨rfl, rfl, rfl, rfl⟩
      | succ i =>
        have := q4 i x hx
        rw [show (i + 1) * 4 = i * 4 + 4 by omega]
        exact this
theorem bd_all {bd : List (Nat × Nat)} (hb : ∀ z ∈ bd, ∃ n, E.sy z.1 = some n ∧ -(z.2 : Int) ≤ n ∧ n ≤ z.2) : ∀ {vs : List V} {ns : List Int}, VRs E vs (ns.map (Value.int .i64)) → (∀ v ∈ vs, isI v = true) → (∀ v ∈ vs, bdOk bd v = true) → ∀ n ∈ ns, InR n
  | [], ns, h, _, _, n, hn => by
    have : ns = [] := by have := h.1; simpa using this.symm
    subst this; cases hn
  | v :: vs, [], h, _, _, n, hn => by cases hn
  | v :: vs, m :: ns, h, hi, ho, n, hn => by
    obtain ⟨W, M, e, h1, h2⟩ := h.head
    simp only [List.map_cons, List.cons.injEq] at e
    obtain ⟨rfl, rfl⟩ := e
    rcases List.mem_cons.1 hn with rfl | hn
    · have := ho v (.head _)
      unfold bdOk at this
      cases hq : bdV bd v with
      | none => rw [hq] at this; cases this
      | some z =>
        rw [hq] at this
        have hz : z < 2305843009213693952 := Nat.le_of_ble_eq_true this
        obtain ⟨q, e1, e2, e3⟩ := bdV_ok hq (hi v (.head _)) h1 hb
        cases e1
        unfold InR; omega
    · exact bd_all hb h2 (fun v hv => hi v (.tail _ hv)) (fun v hv => ho v (.tail _ hv)) n hn
end

section
variable {TP : TreeP} {hT : TreeOk TP} {N : Int}
theorem isT_ok {E : Env} {v : V} {W : Value} (h : isT v = true) (hv : VR E v W) : W = .bool true := by
  unfold isT at h
  split at h <;> first | (cases h; done) | skip
  subst h; cases hv; rfl
theorem isZ_ok {E : Env} {v : V} {W : Value} (h : isZ v = true) (hv : VR E v W) : W = .int .i64 0 := by
  unfold isZ at h
  split at h <;> first | (cases h; done) | skip
  obtain ⟨h1, h2⟩ := an_ok h
  rw [Nat.eq_of_beq_eq_true h2] at hv
  cases hv
  rw [kno_inj (k' := .i64) h1]; rfl
theorem qKey_ok {cf : CF MM} (hcf : CallOk (IN TP hT N) Tryz.prog cf) {args : List V} {s s' : SM} {v : V} (h : qKey cf args s = some (v, s')) : Ans (IN TP hT N) 90 args s v s' := by
  unfold qKey at h
  split at h <;> first | (cases h; done) | skip
  rename_i l
  obtain ⟨⟨n1, d⟩, hd, h⟩ := ob_eq h
  obtain ⟨g1, h⟩ := ck_eq h
  obtain ⟨r, hr, h⟩ := ob_eq h
  obtain ⟨k, hk, h⟩ := ob_eq h
  obtain ⟨g3, h⟩ := ck_eq h
  obtain ⟨⟨qv, s1⟩, hq, h⟩ := ob_eq h
  obtain ⟨g2, h⟩ := ck_eq h
  dsimp only at hr hk hq g1 g2 h
  obtain rfl : n1 = 1 := Nat.eq_of_beq_eq_true g1
  rw [lget_eq] at hk
  intro K E w A hS hA
  obtain ⟨x, rfl, hx⟩ := args1 hA
  obtain ⟨b, o, cap, cs, rfl, hdv, hcl, hcc⟩ := src_at hS hd hx (by omega)
  obtain ⟨ns, q1, q2, q3, q4⟩ := nums_ok hr hdv
  obtain ⟨n, rfl⟩ : ∃ n, ns = [n] := List.length_eq_one_iff.1 q1
  obtain ⟨e0, e1, e2, e3⟩ := q4 0 n rfl
  have hcs : cs = [.int .u8 1, .int .i64 n, .string ⟨#[]⟩, .bool false] := by
    match cs, hcl, e0, e1, e2, e3 with
    | [a, b, c, d], _, e0, e1, e2, e3 => cases e0; cases e1; cases e2; cases e3; rfl
  subst hcs
  obtain ⟨W0, hW0, hkv⟩ := q2.get hk
  have hW0 : W0 = .int .i64 n := by
    have : ([Value.int .i64 n] : List Value)[0]? = some W0 := hW0
    cases this; rfl
  subst hW0
  obtain ⟨H1, nx1, ⟨h0, t, tr, dt, ky, nsy, bd, sm⟩⟩ := s1
  unfold qKey2 at h
  dsimp only at h
  rw [fN_eq] at h; cases h
  have hrl : r = [k] := by
    have h1 := q2.1
    match r, hk, h1 with
    | [a], hk, _ => cases hk; rfl
  subst hrl
  have hin : InR n := by
    obtain ⟨F, ⟨c, f, L, g⟩, _, _⟩ := hS.inv
    exact bd_all g.bd q2 q3 (fun v hv => by cases hv with | head => exact g3 | tail _ hv => cases hv) n (.head _)
  obtain ⟨box, hbox⟩ : ∃ box : Obj, box = .cells #[.int .u8 1, .int .i64 n, .string ⟨#[]⟩, .bool false] 60 := ⟨_, rfl⟩
  obtain ⟨K', hG1, hG2, hK, hSK⟩ := hS.box box
  have hA : VRs E [.agg d] (#[.agg #[.int .u8 1, .int .i64 n, .string ⟨#[]⟩, .bool false]] : Array Value).toList := .cons (VRs.agg hdv) .nil
  have hcall := hcf hq hSK hA
  have hkey := key_at (w := w) (b := b) (o := o) (cap := cap) (n := n) (R := fun w1 => ∃ E', E.le E' ∧ Sim (IN TP hT N) K E' H1 nx1 ⟨h0, t, tr, dt, ky, nsy, bd, sm⟩ w1)
    (by have := hin.1; omega) (by have := hin.2; omega) (hcc 0 _ rfl) (hcc 1 _ rfl) (hcc 2 _ rfl) (hcc 3 _ rfl) (by
      rw [hbox] at hcall
      refine hcall.mono ?_
      rintro e w1 ⟨W, E', rfl, hle, hvw, hS1⟩
      refine ⟨by rw [isT_ok g2 hvw], ?_, E', hle, hK hS1⟩
      have := hS1.frame hG1
      rw [hbox] at this; exact this)
  refine hkey.mono ?_
  rintro e w2 ⟨w1, dv, ⟨E', hle, hS1⟩, rfl, hBs, hB, hnew⟩
  obtain ⟨hB1, hB2, b', off, cap', rfl, hbl, hbc⟩ := hBs
  have hBs : Bs w2 (.slice (some ⟨b', off, none⟩) (keyB n).length cap') (keyB n) := ⟨hB1, hB2, b', off, cap', rfl, hbl, hbc⟩
  obtain ⟨r1, r2, r3⟩ := new_bytes (m' := ⟨h0, t, tr, dt, (nx1, k) :: ky, nsy, bd, sm⟩) hS1 hB hBs (hnew b' rfl) rfl (fun x hx => .inl hx) (fun x hx => by
    rcases List.mem_cons.1 hx with rfl | hx
    · exact .inr ⟨n, rfl, rfl, keyB_length n, hkv.mono hle, hin⟩
    · exact .inl hx)
  rw [keyB_length] at r2
  refine ⟨_, _, rfl, hle.trans r1, ?_, r3⟩
  rw [keyB_length]
  exact VRs.tup (.cons r2 (.cons (.int _ _) .nil))
theorem qBytes_ok {cf : CF MM} (hcf : CallOk (IN TP hT N) Tryz.prog cf) {args : List V} {s s' : SM} {v : V} (h : qBytes cf args s = some (v, s')) : Ans (IN TP hT N) 273 args s v s' := by
  unfold qBytes at h
  split at h <;> first | (cases h; done) | skip
  rename_i ks l
  obtain ⟨⟨qv, s1⟩, hq, h⟩ := ob_eq h
  obtain ⟨g1, h⟩ := ck_eq h
  obtain ⟨⟨n1, d⟩, hd, h⟩ := ob_eq h
  obtain ⟨g2, h⟩ := ck_eq h
  obtain ⟨g3, h⟩ := ck_eq h
  obtain ⟨vs, hvs, h⟩ := ob_eq h
  dsimp only at hd g1 g2 g3 hvs h
  have g2 : 0 < n1 := Nat.le_of_ble_eq_true g2
  have g3 : n1 ≤ 8 := Nat.le_of_ble_eq_true g3
  obtain ⟨H1, nx1, ⟨h0, t, tr, dt, ky, nsy, bd, sm⟩⟩ := s1
  unfold qBytes2 at h
  dsimp only at h
  obtain ⟨g4, h⟩ := ck_eq h
  rw [fN_eq, fN_eq] at h; cases h
  intro K E w A hS hA
  obtain ⟨x, y, rfl, hx, hy⟩ := args2 hA
  have hcall := hcf hq hS hA
  have hby := bytes_at (w := w) (kv := x) (lv := y) (R := fun ns w1 => ∃ E', E.le E' ∧ Ints E' vs ns ∧ vs.length = n1 ∧ Sim (IN TP hT N) K E' H1 nx1 ⟨h0, t, tr, dt, ky, nsy, bd, sm⟩ w1) (by
    refine hcall.mono ?_
    rintro e w1 ⟨W, E', rfl, hle, hvw, hS1⟩
    refine ⟨by rw [isZ_ok g1 hvw], ?_⟩
    obtain ⟨b, o, cap, cs, rfl, hdv, hcl, hcc⟩ := src_at (I := IN TP hT N) (s := ⟨H1, nx1, ⟨h0, t, tr, dt, ky, nsy, bd, sm⟩⟩) hS1 hd (hy.mono hle) g2
    obtain ⟨ns, q1, q2, q3, q4⟩ := nums_ok hvs hdv
    have hin : ∀ n ∈ ns, InR n := by
      obtain ⟨F, ⟨c, f, L, g⟩, _, _⟩ := hS1.inv
      exact bd_all g.bd q2 q3 (fun v hv => allB_ok g4 v hv)
    refine ⟨ns, by omega, ⟨b, o, cap, by rw [q1], ?_, fun i n hi => ?_⟩, E', hle, ⟨q2, hin⟩, by have := q2.1; simp at this; omega, hS1⟩
    · have : 0 < cs.length := by omega
      exact World.block_lt_of_cell? _ _ (hcc 0 _ (List.getElem?_eq_getElem this))
    · obtain ⟨e0, e1, e2, e3⟩ := q4 i n hi
      exact ⟨hcc _ _ e0, by rw [Nat.add_assoc]; exact hcc _ _ e1, by rw [Nat.add_assoc]; exact hcc _ _ e2, by rw [Nat.add_assoc]; exact hcc _ _ e3⟩)
  refine hby.mono ?_
  rintro e w2 ⟨w1, ns, dv, ⟨E', hle, hin, hvl, hS1⟩, rfl, hBs, hB, hnew⟩
  obtain ⟨hB1, hB2, b', off, cap', rfl, hbl, hbc⟩ := hBs
  have hBs : Bs w2 (.slice (some ⟨b', off, none⟩) (rowB ns).length cap') (rowB ns) := ⟨hB1, hB2, b', off, cap', rfl, hbl, hbc⟩
  have hnl : ns.length = n1 := by have := hin.1.1; simp at this; omega
  obtain ⟨r1, r2, r3⟩ := new_bytes (m' := ⟨h0, t, tr, (nx1, vs) :: dt, ky, nsy, bd, sm⟩) hS1 hB hBs (hnew b' rfl) rfl (fun x hx => by
    rcases List.mem_cons.1 hx with rfl | hx
    · exact .inr ⟨ns, rfl, rfl, by rw [rowB_length, hvl, hnl], hin⟩
    · exact .inl hx) (fun x hx => .inl hx)
  rw [rowB_length, hnl] at r2
  refine ⟨_, _, rfl, hle.trans r1, ?_, r3⟩
  rw [rowB_length, hnl]
  exact VRs.tup (.cons r2 (.cons (.int _ _) .nil))
theorem kinds_ok {E : Env} : ∀ {l : List V} {cs : List Value}, allB kind1 l = true → VRs E l cs → ∀ c ∈ cs, c = .int .u8 1
  | [], cs, _, hv, c, hc => by
    have : cs = [] := List.eq_nil_of_length_eq_zero hv.1.symm
    subst this; cases hc
  | v :: l, cs, h, hv, c, hc => by
    obtain ⟨W, m, rfl, h1, h2⟩ := hv.head
    have ha := allB_ok h
    rcases List.mem_cons.1 hc with rfl | hc
    · have hk := ha v (.head _)
      unfold kind1 at hk
      cases hn : nK 4 v with
      | none => rw [hn] at hk; cases hk
      | some k =>
        rw [hn] at hk
        have := nK_ok (k0 := .u8) hn h1
        rw [this, Nat.eq_of_beq_eq_true hk]; rfl
    · exact kinds_ok (l := l) (by
        have h' : Bool.rec (motive := fun _ => Bool) false (allB kind1 l) (kind1 v) = true := h
        rw [ha v (.head _)] at h'; exact h') h2 c hc
theorem valsM_ok {E : Env} : ∀ {vs r : List V} {ns : List Int}, valsM vs = some r → VRs E vs (ns.map (Value.int .i64)) → VRs E r (valsV ns)
  | [], r, ns, h, hv => by
    cases h
    have : ns = [] := by have := hv.1; simpa using this.symm
    subst this; exact .nil
  | v :: vs, r, [], h, hv => absurd hv.1 (by simp)
  | v :: vs, r, n :: ns, h, hv => by
    have h : ob (valsM vs) (fun r => some (V.int .u8 (.ofNat 1) :: v :: .str [] :: .bool false :: r)) = some r := h
    obtain ⟨r', hr, h⟩ := ob_eq h
    cases h
    obtain ⟨W, m, e, h1, h2⟩ := hv.head
    simp only [List.map_cons, List.cons.injEq] at e
    obtain ⟨rfl, rfl⟩ := e
    exact .cons (.int _ _) (.cons h1 (.cons (.str rfl) (.cons (.bool _) (valsM_ok hr h2))))
theorem qRead_ok {cf : CF MM} (hcf : CallOk (IN TP hT N) Tryz.prog cf) {args : List V} {s s' : SM} {v : V} (h : qRead 60 cf args s = some (v, s')) : Ans (IN TP hT N) 71 args s v s' := by
  unfold qRead at h
  split at h <;> first | (cases h; done) | skip
  rename_i ks dn len
  obtain ⟨⟨qv, s1⟩, hq, h⟩ := ob_eq h
  obtain ⟨g1, h⟩ := ck_eq h
  obtain ⟨⟨n1, d⟩, hd, h⟩ := ob_eq h
  obtain ⟨g2, h⟩ := ck_eq h
  obtain ⟨g3, h⟩ := ck_eq h
  obtain ⟨g4, h⟩ := ck_eq h
  obtain ⟨g5, h⟩ := ck_eq h
  obtain ⟨vs, hvs, h⟩ := ob_eq h
  obtain ⟨g6, h⟩ := ck_eq h
  obtain ⟨r, hr, h⟩ := ob_eq h
  obtain ⟨⟨xv, xs⟩, hx, h⟩ := ob_eq h
  cases h
  obtain ⟨rfl, H2, hH2, rfl⟩ := newB_eq hx
  dsimp only at hd g1 g2 g3 g4 g5 g6 hvs hH2 ⊢
  have g2 : 0 < n1 := Nat.le_of_ble_eq_true g2
  have g3 : n1 ≤ 8 := Nat.le_of_ble_eq_true g3
  obtain rfl : len = 1 + 8 * n1 := Nat.eq_of_beq_eq_true g4
  have g6 := Nat.eq_of_beq_eq_true g6
  rw [llen_eq] at g6
  intro K E w A hS hA
  obtain ⟨x, y, rfl, hx, hy⟩ := args2 hA
  have hA1 : VRs E [ks] (#[x] : Array Value).toList := .cons hx .nil
  have hcall := hcf hq hS hA1
  cases hy with
  | bs hbd =>
  rename_i b c
  have hrd := read_at (w := w) (kv := x) (b := b) (o := c.1) (cap := c.2) (K := n1) (R := fun ns w1 => ∃ E', E.le E' ∧ VRs E' r (valsV ns) ∧ Sim (IN TP hT N) K E' s1.H s1.nx s1.m w1) g2 g3 (by
    refine hcall.mono ?_
    rintro e w1 ⟨W, E', rfl, hle, hvw, hS1⟩
    refine ⟨by rw [isT_ok g1 hvw], ?_⟩
    obtain ⟨F, ⟨cc, f, L, g⟩, _, _⟩ := hS1.inv
    obtain ⟨b', o', cap', ns, a1, a2, a3, _⟩ := g.data _ (lkp_mem hvs)
    rw [hle.blk hbd] at a1; cases a1
    obtain ⟨_, _, b2, o2, cap2, he, hb2, hlc, hcells⟩ := a2
    have hvl : vs.length = ns.length := by have := a3.1.1; simpa using this
    simp only [Value.slice.injEq, Option.some.injEq, Addr.mk.injEq] at he
    obtain ⟨⟨rfl, rfl, _⟩, hlen, rfl⟩ := he
    rw [rowB_length] at hlc
    obtain ⟨kb, ko, kcap, cs, rfl, hdv, hcl, hcc⟩ := src_at (I := IN TP hT N) hS1 hd (hx.mono hle) g2
    refine ⟨ns, by omega, by omega, fun n hn => ?_, ⟨kb, ko, kcap, rfl, fun i hi => ?_⟩, hcells, E', hle, valsM_ok hr a3.1, hS1⟩
    · have := a3.2 n hn; unfold InR at this; omega
    · have hi2 : i < cs.length := by omega
      have := kinds_ok g5 hdv _ (List.getElem_mem hi2)
      rw [← this]
      exact hcc i _ (List.getElem?_eq_getElem hi2))
  refine hrd.mono ?_
  rintro e w2 ⟨w1, ns, dv, ⟨E', hle, hrv, hS1⟩, rfl, ho, hB⟩
  obtain ⟨E2, r1, r2, r3⟩ := hS1.row hB ho g2 hrv hH2
  exact ⟨_, E2, rfl, hle.trans r1, VRs.tup (.cons r2 (.cons (.int _ _) .nil)), r3⟩
end
end X
end Go.Proofs.YtnkjnclpakfgnaaGreatDoor
