/-
  BookOwn, the walk: the four ways (commit, index).
-/
import Derived.Test.YtdohkjpapmkhjaaTwo
namespace Go.Proofs.Ytdohkjpapmkhjaa
open Go.RowKit
def nameI : ByteArray := ⟨#[105]⟩
theorem isName_i : isName nameI = true := by decide +kernel

set_option maxHeartbeats 8000000 in
set_option maxRecDepth 100000 in
theorem own_true_true (w : World) : Calls Try.prog 14 #[.bool true, .bool true] w fun e w' => e = .returned (.bool true) ∧ Below w.heap.size w w' := by
  go_enter Try.func14, Try.ntmps14
  go_wp2_with fail
  refine (awake_eleven w).mono ?_
  rintro e w0 ⟨rfl, b0⟩
  go_wp2_with fail
  refine (new_ok 1 w0 (by decide) (by decide) (fun _ => 0) 1).mono ?_
  rintro e w1 ⟨rfl, l1, b1⟩
  go_wp2_with fail
  refine (bnew_at w1 (col (fun _ => 0) w0.heap.size 1) 2).mono ?_
  rintro e w2 ⟨rfl, k2, b2⟩
  have D2 : Desk w0 (col (col (fun _ => 0) w0.heap.size 1) w1.heap.size 2) w2 w0.heap.size w1.heap.size [] (.slice none 0 0) (.slice none 0 0) [] [] 0 :=
    ⟨(l1.recol (fun b hb => col_old hb)).same b2, k2, fun b hb => by rw [col_old (Nat.lt_of_lt_of_le hb b1.size), col_old hb], b1.trans (b2.mono b1.size)⟩
  clear l1 k2 b1 b2
  obtain ⟨pl, hpl⟩ : ∃ pl, pl = w0.heap.size := ⟨_, rfl⟩
  obtain ⟨p, hp⟩ : ∃ p, p = w1.heap.size := ⟨_, rfl⟩
  obtain ⟨c2, hc2⟩ : ∃ c2, c2 = col (col (fun _ => 0) w0.heap.size 1) w1.heap.size 2 := ⟨_, rfl⟩
  rw [← hc2] at D2
  rw [← hpl, ← hp] at D2
  rw [← hpl, ← hp]
  clear hc2 hpl hp
  go_wp2_with fail
  refine (desk_begin D2 (by decide)).mono ?_
  rintro e w3 ⟨rfl, D3, _⟩
  clear D2
  go_wp2_with fail
  refine (desk_begin D3 (by decide)).mono ?_
  rintro e w4 ⟨rfl, D4, _⟩
  clear D3
  obtain ⟨c4, D4⟩ : ∃ c4, Desk w0 c4 w4 pl p [1, 1] (.slice none 0 0) (.slice none 0 0) [] [] 0 := ⟨_, D4⟩
  go_wp2_with fail
  have e1 : Ytdohkjpapmkhjaa.take 1 [1, 1] 1 = ⟨1, 2, 3, [2]⟩ := rfl
  have e2 : Ytdohkjpapmkhjaa.take 1 [1, 1] 2 = ⟨2, 1, 3, [1]⟩ := rfl
  refine (desk_take D4 1).mono ?_
  rw [e1]
  rintro e w5 ⟨r1, rfl, O5, D5, _⟩
  clear D4 e1
  obtain ⟨ra1, rc1, hr1⟩ := ownsRow_slice O5.1.1
  subst hr1
  unfold Snp.val
  go_wp2_with fail
  refine (desk_take D5 2).mono ?_
  rw [e2]
  rintro e w6 ⟨r2, rfl, O6, D6, b6⟩
  have O56 := (O5.recol (c' := col (col c4 w4.heap.size 9) w5.heap.size 9) (fun b hb => col_old hb)).same b6
  clear D5 e2 O5 b6
  obtain ⟨ra2, rc2, hr2⟩ := ownsRow_slice O6.1.1
  subst hr2
  unfold Snp.val
  go_wp2_with fail
  obtain ⟨c6, hc6⟩ : ∃ c6, c6 = col (col c4 w4.heap.size 9) w5.heap.size 9 := ⟨_, rfl⟩
  rw [← hc6] at O6 D6 O56
  clear hc6
  have hal : Below w6.heap.size w6 ((w6.alloc (.cells #[.int .u64 1, .int .u64 2, .int .u64 3, .slice ra1 1 rc1] 66)).alloc (.cells #[.int .u64 2, .int .u64 1, .int .u64 3, .slice ra2 1 rc2] 66)) := ((Below.refl _ _).alloc (Nat.le_refl _) _).alloc (by simp) _
  have hA := block_alloc (heap_new1 w6 (.cells #[.int .u64 1, .int .u64 2, .int .u64 3, .slice ra1 1 rc1] 66)) (.cells #[.int .u64 2, .int .u64 1, .int .u64 3, .slice ra2 1 rc2] 66)
  have hB := heap_new2 w6 (.cells #[.int .u64 1, .int .u64 2, .int .u64 3, .slice ra1 1 rc1] 66) (.cells #[.int .u64 2, .int .u64 1, .int .u64 3, .slice ra2 1 rc2] 66)
  obtain ⟨w7, hw7⟩ : ∃ w7, w7 = ((w6.alloc (.cells #[.int .u64 1, .int .u64 2, .int .u64 3, .slice ra1 1 rc1] 66)).alloc (.cells #[.int .u64 2, .int .u64 1, .int .u64 3, .slice ra2 1 rc2] 66)) := ⟨_, rfl⟩
  obtain ⟨c7, hc7⟩ : ∃ c7, c7 = col c6 w6.heap.size 9 := ⟨_, rfl⟩
  rw [← hw7] at hal hA hB
  have D7 : Desk w0 c7 w7 pl p [1, 1] (.slice none 0 0) (.slice none 0 0) [] [] 0 := by rw [hc7]; exact (D6.recol (fun b hb => col_old hb)).same hal
  have O71 : Own9 c7 w7 (.slice ra1 1 rc1) [2] := by rw [hc7]; exact (O56.recol (fun b hb => col_old hb)).same hal
  have O72 : Own9 c7 w7 (.slice ra2 1 rc2) [1] := by rw [hc7]; exact (O6.recol (fun b hb => col_old hb)).same hal
  obtain ⟨q5, hq5⟩ : ∃ q5, q5 = w6.heap.size + 1 := ⟨_, rfl⟩
  obtain ⟨q4, hq4⟩ : ∃ q4, q4 = w6.heap.size := ⟨_, rfl⟩
  have hn4 : c7 q4 = 9 := by rw [hc7, hq4]; exact col_new (Nat.le_refl _)
  have hn5 : c7 q5 = 9 := by rw [hc7, hq5]; exact col_new (by omega)
  rw [← hq4] at hA
  rw [← hq5] at hB
  rw [← hw7, ← hq5, ← hq4]
  have W7 : Two w0 c7 w7 pl p [1, 1] (.slice none 0 0) (.slice none 0 0) [] [] 0 q4 ⟨1, 2, 3, [2]⟩ ra1 rc1 q5 ⟨2, 1, 3, [1]⟩ ra2 rc2 := ⟨D7, ⟨hA, hn4, O71⟩, ⟨hB, hn5, O72⟩⟩
  clear hw7 hc7 hq4 hq5 hA hB hal O6 D6 O56 D7 O71 O72 hn4 hn5
  have t1 : takenE 1 [1, 1] ⟨1, 2, 3, [2]⟩ nameT [] 0 = 0 := rfl
  have HCR := Lib.hid (show ∀ w', Below w7.heap.size w7 w' → ∀ g, ColsAt w' (.slice (some ⟨g, 0, none⟩) 1 1) → Calls Try.prog 48 #[.pointer (some ⟨p, 0, none⟩), .pointer (some ⟨pl, 0, none⟩), .agg #[.int .u64 1, .int .u64 2, .int .u64 3, .slice ra1 1 rc1], .string { data := #[116] }, .slice (some ⟨g, 0, none⟩) 1 1] w' fun r w'' => r = .returned (.tuple #[.int .u64 1, .int .i64 0]) ∧
      ∃ c' v' bt cv', Two w0 c' w'' pl p [1, 1] v' (.slice none 0 0) [(bt, ⟨1, nameT, 1, 0⟩, cv')] [] 1 q4 ⟨1, 2, 3, [2]⟩ ra1 rc1 q5 ⟨2, 1, 3, [1]⟩ ra2 rc2 from fun w' hb g hc =>
    two_create (W7.same hb) nameT (by decide) hc isName_t t1 (by decide) (by decide))
  clear t1
  obtain ⟨a0, a1, a2, a3⟩ := W7.a.four
  have a0 : w7.cell? ⟨q4, 0, none⟩ = some (.int .u64 1) := a0
  have a1 : w7.cell? ⟨q4, 1, none⟩ = some (.int .u64 2) := a1
  have a2 : w7.cell? ⟨q4, 2, none⟩ = some (.int .u64 3) := a2
  have a3 : w7.cell? ⟨q4, 3, none⟩ = some (.slice ra1 1 rc1) := a3
  have hC0 : Below w7.heap.size w7 w7.drew := below_drewN (n := 1)
  go_region_held3 (fun z => z.cell? ⟨q4, 0, none⟩ = some (.int .u64 1) ∧ z.cell? ⟨q4, 1, none⟩ = some (.int .u64 2) ∧ z.cell? ⟨q4, 2, none⟩ = some (.int .u64 3) ∧ z.cell? ⟨q4, 3, none⟩ = some (.slice ra1 1 rc1))
    (first | exact ⟨W8.a.four.1, W8.a.four.2.1, W8.a.four.2.2.1, W8.a.four.2.2.2⟩ | exact ⟨keeper hC1 a0, keeper hC1 a1, keeper hC1 a2, keeper hC1 a3⟩ | exact ⟨keeper hC0 a0, keeper hC0 a1, keeper hC0 a2, keeper hC0 a3⟩)
    (first
      | (have _h := hC1; go_at_call 48; (with_reducible refine (HCR.out _ hC1 _ hcx).mono ?_); rintro e w8 ⟨rfl, c8, v8, b8, cv8, W8⟩)
      | (go_at_call 49; (with_reducible refine (one_at _).mono ?_); rintro e wx ⟨gx, rfl, _, hcx, hkx⟩; have hC1 := hC0.trans (hkx.mono hC0.size)))
  clear hkx hC0 hC1 HCR a0 a1 a2 a3 W7 hcx
  have W9 := W8
  have HMK : Calls Try.prog 53 #[.pointer (some ⟨p, 0, none⟩), .pointer (some ⟨pl, 0, none⟩), .agg #[.int .u64 1, .int .u64 2, .int .u64 3, .slice ra1 1 rc1], .string { data := #[105] }, .string { data := #[116] }, .string { data := #[97] }] w8 fun r w' => r = .returned (.tuple #[.agg #[.int .u64 2, .string { data := #[105] }, .int .u64 1, .int .i64 0, .int .u64 1, .int .u64 0], .int .i64 0]) ∧
      ∃ c' v' bt, Two w0 c' w' pl p [1, 1] v8 v' [(b8, ⟨1, nameT, 1, 0⟩, cv8)] [(bt, ⟨2, nameI, 1, 0⟩, 1)] 2 q4 ⟨1, 2, 3, [2]⟩ ra1 rc1 q5 ⟨2, 1, 3, [1]⟩ ra2 rc2 :=
    two_mkind W8 nameI nameT (by decide) isName_i (t := (b8, ⟨1, nameT, 1, 0⟩, cv8)) rfl (by show takenE 1 [1, 1] ⟨1, 2, 3, [2]⟩ nameI [⟨1, nameT, 1, 0⟩] 0 = 0; decide +kernel) (by decide) (by decide)
  have HMK := Lib.hid HMK
  obtain ⟨a0, a1, a2, a3⟩ := W8.a.four
  have a0 : w8.cell? ⟨q4, 0, none⟩ = some (.int .u64 1) := a0
  have a1 : w8.cell? ⟨q4, 1, none⟩ = some (.int .u64 2) := a1
  have a2 : w8.cell? ⟨q4, 2, none⟩ = some (.int .u64 3) := a2
  have a3 : w8.cell? ⟨q4, 3, none⟩ = some (.slice ra1 1 rc1) := a3
  clear W9
  go_wp2_with fail
  refine HMK.out.mono ?_
  rintro e w9 ⟨rfl, c9, v9, bi, W9⟩
  clear HMK a0 a1 a2 a3 W8
  have hB0 : Below w9.heap.size w9 (w9.alloc (.cells #[.int .u64 2, .string { data := #[105] }, .int .u64 1, .int .i64 0, .int .u64 1, .int .u64 0] 107)) := below_alloc _ _
  have HT1 : ∀ w', Below w9.heap.size w9 w' → Calls Try.prog 54 #[.pointer (some ⟨p, 0, none⟩), .pointer (some ⟨pl, 0, none⟩), .agg #[.int .u64 1, .int .u64 2, .int .u64 3, .slice ra1 1 rc1], .string { data := #[116] }] w' fun r w'' => (∃ g cap, r = .returned (.tuple #[.agg #[.int .u64 1, .string nameT, .slice (some ⟨g, 0, none⟩) 1 cap, .int .u64 1, .int .u64 0], .bool true])) ∧ Below w'.heap.size w' w'' := fun w' hb =>
    table_some (W9.d.b.same hb) (W9.d.l.same hb) (s := ⟨1, 2, 3, [2]⟩) (W9.a.run.1.same hb) nameT (t := (b8, ⟨1, nameT, 1, 0⟩, cv8)) (by rfl)
  have HT1 := Lib.hid HT1
  have HT2 : ∀ w', Below w9.heap.size w9 w' → Calls Try.prog 54 #[.pointer (some ⟨p, 0, none⟩), .pointer (some ⟨pl, 0, none⟩), .agg #[.int .u64 2, .int .u64 1, .int .u64 3, .slice ra2 1 rc2], .string { data := #[116] }] w' fun r w'' => r = .returned (.tuple #[.agg #[.int .u64 0, .string ⟨#[]⟩, .slice none 0 0, .int .u64 0, .int .u64 0], .bool false]) ∧ Below w'.heap.size w' w'' := fun w' hb =>
    table_none (W9.d.b.same hb) (W9.d.l.same hb) (s := ⟨2, 1, 3, [1]⟩) (W9.b.run.1.same hb) nameT (by rfl)
  have HT2 := Lib.hid HT2
  have a0 : (w9.alloc (.cells #[.int .u64 2, .string { data := #[105] }, .int .u64 1, .int .i64 0, .int .u64 1, .int .u64 0] 107)).cell? ⟨q4, 0, none⟩ = some (.int .u64 1) := keeper hB0 W9.a.four.1
  have a1 : (w9.alloc (.cells #[.int .u64 2, .string { data := #[105] }, .int .u64 1, .int .i64 0, .int .u64 1, .int .u64 0] 107)).cell? ⟨q4, 1, none⟩ = some (.int .u64 2) := keeper hB0 W9.a.four.2.1
  have a2 : (w9.alloc (.cells #[.int .u64 2, .string { data := #[105] }, .int .u64 1, .int .i64 0, .int .u64 1, .int .u64 0] 107)).cell? ⟨q4, 2, none⟩ = some (.int .u64 3) := keeper hB0 W9.a.four.2.2.1
  have a3 : (w9.alloc (.cells #[.int .u64 2, .string { data := #[105] }, .int .u64 1, .int .i64 0, .int .u64 1, .int .u64 0] 107)).cell? ⟨q4, 3, none⟩ = some (.slice ra1 1 rc1) := keeper hB0 W9.a.four.2.2.2
  go_wp2_with fail
  refine (HT1.out _ hB0).mono ?_
  rintro e w10 ⟨⟨g1, cap1, rfl⟩, hk10⟩
  have hB1 := (hB0.trans (hk10.mono hB0.size)).alloc (hB0.trans (hk10.mono hB0.size)).size (.cells #[.int .u64 1, .string nameT, .slice (some ⟨g1, 0, none⟩) 1 cap1, .int .u64 1, .int .u64 0] 111)
  clear a0 a1 a2 a3 HT1
  have a0 : (w10.alloc (.cells #[.int .u64 1, .string nameT, .slice (some ⟨g1, 0, none⟩) 1 cap1, .int .u64 1, .int .u64 0] 111)).cell? ⟨q5, 0, none⟩ = some (.int .u64 2) := keeper hB1 W9.b.four.1
  have a1 : (w10.alloc (.cells #[.int .u64 1, .string nameT, .slice (some ⟨g1, 0, none⟩) 1 cap1, .int .u64 1, .int .u64 0] 111)).cell? ⟨q5, 1, none⟩ = some (.int .u64 1) := keeper hB1 W9.b.four.2.1
  have a2 : (w10.alloc (.cells #[.int .u64 1, .string nameT, .slice (some ⟨g1, 0, none⟩) 1 cap1, .int .u64 1, .int .u64 0] 111)).cell? ⟨q5, 2, none⟩ = some (.int .u64 3) := keeper hB1 W9.b.four.2.2.1
  have a3 : (w10.alloc (.cells #[.int .u64 1, .string nameT, .slice (some ⟨g1, 0, none⟩) 1 cap1, .int .u64 1, .int .u64 0] 111)).cell? ⟨q5, 3, none⟩ = some (.slice ra2 1 rc2) := keeper hB1 W9.b.four.2.2.2
  go_wp2_with fail
  refine (HT2.out _ hB1).mono ?_
  rintro e w11 ⟨rfl, hk11⟩
  have hB2 := (hB1.trans (hk11.mono hB1.size)).alloc (hB1.trans (hk11.mono hB1.size)).size (.cells #[.int .u64 0, .string ⟨#[]⟩, .slice none 0 0, .int .u64 0, .int .u64 0] 111)
  have W12 := W9.same hB2
  clear a0 a1 a2 a3 HT2
  go_wp2_with fail
  refine (two_commit W12 1).mono ?_
  rintro e w12 ⟨rfl, W13⟩
  have W13 : Two w0 c9 w12 pl p [2, 1] v8 v9 [(b8, ⟨1, nameT, 1, 0⟩, cv8)] [(bi, ⟨2, nameI, 1, 0⟩, 1)] 2 q4 ⟨1, 2, 3, [2]⟩ ra1 rc1 q5 ⟨2, 1, 3, [1]⟩ ra2 rc2 := W13
  clear W12
  go_wp2_with fail
  refine (two_begin W13 (by decide)).mono ?_
  rintro e w13 ⟨rfl, c13, W14⟩
  have W14 : Two w0 c13 w13 pl p [2, 1, 1] v8 v9 [(b8, ⟨1, nameT, 1, 0⟩, cv8)] [(bi, ⟨2, nameI, 1, 0⟩, 1)] 2 q4 ⟨1, 2, 3, [2]⟩ ra1 rc1 q5 ⟨2, 1, 3, [1]⟩ ra2 rc2 := W14
  clear W13
  go_wp2_with fail
  have e3 : Ytdohkjpapmkhjaa.take 1 [2, 1, 1] 3 = ⟨3, 2, 4, [2]⟩ := rfl
  refine (desk_take W14.d 3).mono ?_
  rw [e3]
  rintro e w14 ⟨r3, rfl, O15, D15, hk14⟩
  have W15 := (W14.recol (c' := col c13 w13.heap.size 9) (fun b hb => col_old hb)).same hk14
  clear W14 e3 D15 hk14
  obtain ⟨ra3, rc3, hr3⟩ := ownsRow_slice O15.1.1
  subst hr3
  unfold Snp.val
  have hz14 : Below w14.heap.size w14 (w14.alloc (.cells #[.int .u64 3, .int .u64 2, .int .u64 4, .slice ra3 1 rc3] 66)) := below_alloc _ _
  have h14 := heap_new1 w14 (.cells #[.int .u64 3, .int .u64 2, .int .u64 4, .slice ra3 1 rc3] 66)
  have HT3 : ∀ w', Below w14.heap.size w14 w' → Calls Try.prog 54 #[.pointer (some ⟨p, 0, none⟩), .pointer (some ⟨pl, 0, none⟩), .agg #[.int .u64 2, .int .u64 1, .int .u64 3, .slice ra2 1 rc2], .string { data := #[116] }] w' fun r w'' => r = .returned (.tuple #[.agg #[.int .u64 0, .string ⟨#[]⟩, .slice none 0 0, .int .u64 0, .int .u64 0], .bool false]) ∧ Below w'.heap.size w' w'' := fun w' hb =>
    table_none (W15.d.b.same hb) (W15.d.l.same hb) (s := ⟨2, 1, 3, [1]⟩) (W15.b.run.1.same hb) nameT (by rfl)
  have HT3 := Lib.hid HT3
  have HT4 : ∀ w', Below w14.heap.size w14 w' → Calls Try.prog 54 #[.pointer (some ⟨p, 0, none⟩), .pointer (some ⟨pl, 0, none⟩), .agg #[.int .u64 3, .int .u64 2, .int .u64 4, .slice ra3 1 rc3], .string { data := #[116] }] w' fun r w'' => (∃ g cap, r = .returned (.tuple #[.agg #[.int .u64 1, .string nameT, .slice (some ⟨g, 0, none⟩) 1 cap, .int .u64 1, .int .u64 0], .bool true])) ∧ Below w'.heap.size w' w'' := fun w' hb =>
    table_some (W15.d.b.same hb) (W15.d.l.same hb) (s := ⟨3, 2, 4, [2]⟩) (O15.1.same hb) nameT (t := (b8, ⟨1, nameT, 1, 0⟩, cv8)) (by rfl)
  have HT4 := Lib.hid HT4
  have HI1 : ∀ w', Below w14.heap.size w14 w' → Calls Try.prog 55 #[.pointer (some ⟨p, 0, none⟩), .pointer (some ⟨pl, 0, none⟩), .agg #[.int .u64 3, .int .u64 2, .int .u64 4, .slice ra3 1 rc3], .int .u64 1] w' fun r w'' => (∃ a cap, r = .returned (.slice a 1 cap)) ∧ Below w'.heap.size w' w'' := fun w' hb =>
    (indexes_at (W15.d.b.same hb) (W15.d.l.same hb) (s := ⟨3, 2, 4, [2]⟩) (O15.1.same hb) 1).mono fun r w'' ⟨v, h1, h2, h3⟩ => by
      obtain ⟨a, cap, e⟩ := ownsRow_slice h2
      rw [e] at h1
      exact ⟨⟨a, cap, h1⟩, h3⟩
  have HI1 := Lib.hid HI1
  have HI2 : ∀ w', Below w14.heap.size w14 w' → Calls Try.prog 55 #[.pointer (some ⟨p, 0, none⟩), .pointer (some ⟨pl, 0, none⟩), .agg #[.int .u64 2, .int .u64 1, .int .u64 3, .slice ra2 1 rc2], .int .u64 1] w' fun r w'' => (∃ a cap, r = .returned (.slice a 0 cap)) ∧ Below w'.heap.size w' w'' := fun w' hb =>
    (indexes_at (W15.d.b.same hb) (W15.d.l.same hb) (s := ⟨2, 1, 3, [1]⟩) (W15.b.run.1.same hb) 1).mono fun r w'' ⟨v, h1, h2, h3⟩ => by
      obtain ⟨a, cap, e⟩ := ownsRow_slice h2
      rw [e] at h1
      exact ⟨⟨a, cap, h1⟩, h3⟩
  have HI2 := Lib.hid HI2
  have a0 : (w14.alloc (.cells #[.int .u64 3, .int .u64 2, .int .u64 4, .slice ra3 1 rc3] 66)).cell? ⟨q5, 0, none⟩ = some (.int .u64 2) := keeper hz14 W15.b.four.1
  have a1 : (w14.alloc (.cells #[.int .u64 3, .int .u64 2, .int .u64 4, .slice ra3 1 rc3] 66)).cell? ⟨q5, 1, none⟩ = some (.int .u64 1) := keeper hz14 W15.b.four.2.1
  have a2 : (w14.alloc (.cells #[.int .u64 3, .int .u64 2, .int .u64 4, .slice ra3 1 rc3] 66)).cell? ⟨q5, 2, none⟩ = some (.int .u64 3) := keeper hz14 W15.b.four.2.2.1
  have a3 : (w14.alloc (.cells #[.int .u64 3, .int .u64 2, .int .u64 4, .slice ra3 1 rc3] 66)).cell? ⟨q5, 3, none⟩ = some (.slice ra2 1 rc2) := keeper hz14 W15.b.four.2.2.2
  go_wp2_with fail
  clear a0 a1 a2 a3
  obtain ⟨w15, hw15⟩ : ∃ w15, w15 = w14.alloc (.cells #[.int .u64 3, .int .u64 2, .int .u64 4, .slice ra3 1 rc3] 66) := ⟨_, rfl⟩
  obtain ⟨q6, hq6⟩ : ∃ q6, q6 = w14.heap.size := ⟨_, rfl⟩
  rw [← hw15] at hz14 h14
  rw [← hq6] at h14
  rw [← hw15, ← hq6]
  clear hw15 hq6
  have x0 : w15.cell? ⟨q6, 0, none⟩ = some (.int .u64 3) := cell_of_block h14 rfl
  have x1 : w15.cell? ⟨q6, 1, none⟩ = some (.int .u64 2) := cell_of_block h14 rfl
  have x2 : w15.cell? ⟨q6, 2, none⟩ = some (.int .u64 4) := cell_of_block h14 rfl
  have x3 : w15.cell? ⟨q6, 3, none⟩ = some (.slice ra3 1 rc3) := cell_of_block h14 rfl
  refine (HT3.out _ hz14).mono ?_
  rintro e w16 ⟨rfl, hk16⟩
  have hz16 := (hz14.trans (hk16.mono hz14.size)).alloc (hz14.trans (hk16.mono hz14.size)).size (.cells #[.int .u64 0, .string ⟨#[]⟩, .slice none 0 0, .int .u64 0, .int .u64 0] 111)
  have hk16a := hk16.alloc hk16.size (.cells #[.int .u64 0, .string ⟨#[]⟩, .slice none 0 0, .int .u64 0, .int .u64 0] 111)
  have a0 : (w16.alloc (.cells #[.int .u64 0, .string ⟨#[]⟩, .slice none 0 0, .int .u64 0, .int .u64 0] 111)).cell? ⟨q6, 0, none⟩ = some (.int .u64 3) := keeper hk16a x0
  have a1 : (w16.alloc (.cells #[.int .u64 0, .string ⟨#[]⟩, .slice none 0 0, .int .u64 0, .int .u64 0] 111)).cell? ⟨q6, 1, none⟩ = some (.int .u64 2) := keeper hk16a x1
  have a2 : (w16.alloc (.cells #[.int .u64 0, .string ⟨#[]⟩, .slice none 0 0, .int .u64 0, .int .u64 0] 111)).cell? ⟨q6, 2, none⟩ = some (.int .u64 4) := keeper hk16a x2
  have a3 : (w16.alloc (.cells #[.int .u64 0, .string ⟨#[]⟩, .slice none 0 0, .int .u64 0, .int .u64 0] 111)).cell? ⟨q6, 3, none⟩ = some (.slice ra3 1 rc3) := keeper hk16a x3
  clear HT3
  go_wp2_with fail
  clear a0 a1 a2 a3
  refine (HT4.out _ hz16).mono ?_
  rintro e w17 ⟨⟨g4, cap4, rfl⟩, hk17⟩
  have hz17 := (hz16.trans (hk17.mono hz16.size)).alloc (hz16.trans (hk17.mono hz16.size)).size (.cells #[.int .u64 1, .string nameT, .slice (some ⟨g4, 0, none⟩) 1 cap4, .int .u64 1, .int .u64 0] 111)
  have hk17a := hk16a.trans ((hk17.alloc hk17.size (.cells #[.int .u64 1, .string nameT, .slice (some ⟨g4, 0, none⟩) 1 cap4, .int .u64 1, .int .u64 0] 111)).mono hk16a.size)
  have a0 : (w17.alloc (.cells #[.int .u64 1, .string nameT, .slice (some ⟨g4, 0, none⟩) 1 cap4, .int .u64 1, .int .u64 0] 111)).cell? ⟨q6, 0, none⟩ = some (.int .u64 3) := keeper hk17a x0
  have a1 : (w17.alloc (.cells #[.int .u64 1, .string nameT, .slice (some ⟨g4, 0, none⟩) 1 cap4, .int .u64 1, .int .u64 0] 111)).cell? ⟨q6, 1, none⟩ = some (.int .u64 2) := keeper hk17a x1
  have a2 : (w17.alloc (.cells #[.int .u64 1, .string nameT, .slice (some ⟨g4, 0, none⟩) 1 cap4, .int .u64 1, .int .u64 0] 111)).cell? ⟨q6, 2, none⟩ = some (.int .u64 4) := keeper hk17a x2
  have a3 : (w17.alloc (.cells #[.int .u64 1, .string nameT, .slice (some ⟨g4, 0, none⟩) 1 cap4, .int .u64 1, .int .u64 0] 111)).cell? ⟨q6, 3, none⟩ = some (.slice ra3 1 rc3) := keeper hk17a x3
  clear HT4
  go_wp2_with fail
  clear a0 a1 a2 a3
  refine (HI1.out _ hz17).mono ?_
  rintro e w18 ⟨⟨ia1, ic1, rfl⟩, hk18⟩
  have hz18 := hz17.trans (hk18.mono hz17.size)
  have a0 : w18.cell? ⟨q5, 0, none⟩ = some (.int .u64 2) := keeper hz18 W15.b.four.1
  have a1 : w18.cell? ⟨q5, 1, none⟩ = some (.int .u64 1) := keeper hz18 W15.b.four.2.1
  have a2 : w18.cell? ⟨q5, 2, none⟩ = some (.int .u64 3) := keeper hz18 W15.b.four.2.2.1
  have a3 : w18.cell? ⟨q5, 3, none⟩ = some (.slice ra2 1 rc2) := keeper hz18 W15.b.four.2.2.2
  go_wp2_with fail
  clear a0 a1 a2 a3
  refine (HI2.out _ hz18).mono ?_
  rintro e w19 ⟨⟨ia2, ic2, rfl⟩, hk19⟩
  have hz19 := hz18.trans (hk19.mono hz18.size)
  go_wp2_with fail
  go_ret
  exact ⟨rfl, b0.trans ((W15.same hz19).d.below.mono b0.size)⟩

set_option maxHeartbeats 8000000 in
set_option maxRecDepth 100000 in
theorem own_true_false (w : World) : Calls Try.prog 14 #[.bool true, .bool false] w fun e w' => e = .returned (.bool true) ∧ Below w.heap.size w w' := by
  go_enter Try.func14, Try.ntmps14
  go_wp2_with fail
  refine (awake_eleven w).mono ?_
  rintro e w0 ⟨rfl, b0⟩
  go_wp2_with fail
  refine (new_ok 1 w0 (by decide) (by decide) (fun _ => 0) 1).mono ?_
  rintro e w1 ⟨rfl, l1, b1⟩
  go_wp2_with fail
  refine (bnew_at w1 (col (fun _ => 0) w0.heap.size 1) 2).mono ?_
  rintro e w2 ⟨rfl, k2, b2⟩
  have D2 : Desk w0 (col (col (fun _ => 0) w0.heap.size 1) w1.heap.size 2) w2 w0.heap.size w1.heap.size [] (.slice none 0 0) (.slice none 0 0) [] [] 0 :=
    ⟨(l1.recol (fun b hb => col_old hb)).same b2, k2, fun b hb => by rw [col_old (Nat.lt_of_lt_of_le hb b1.size), col_old hb], b1.trans (b2.mono b1.size)⟩
  clear l1 k2 b1 b2
  obtain ⟨pl, hpl⟩ : ∃ pl, pl = w0.heap.size := ⟨_, rfl⟩
  obtain ⟨p, hp⟩ : ∃ p, p = w1.heap.size := ⟨_, rfl⟩
  obtain ⟨c2, hc2⟩ : ∃ c2, c2 = col (col (fun _ => 0) w0.heap.size 1) w1.heap.size 2 := ⟨_, rfl⟩
  rw [← hc2] at D2
  rw [← hpl, ← hp] at D2
  rw [← hpl, ← hp]
  clear hc2 hpl hp
  go_wp2_with fail
  refine (desk_begin D2 (by decide)).mono ?_
  rintro e w3 ⟨rfl, D3, _⟩
  clear D2
  go_wp2_with fail
  refine (desk_begin D3 (by decide)).mono ?_
  rintro e w4 ⟨rfl, D4, _⟩
  clear D3
  obtain ⟨c4, D4⟩ : ∃ c4, Desk w0 c4 w4 pl p [1, 1] (.slice none 0 0) (.slice none 0 0) [] [] 0 := ⟨_, D4⟩
  go_wp2_with fail
  have e1 : Ytdohkjpapmkhjaa.take 1 [1, 1] 1 = ⟨1, 2, 3, [2]⟩ := rfl
  have e2 : Ytdohkjpapmkhjaa.take 1 [1, 1] 2 = ⟨2, 1, 3, [1]⟩ := rfl
  refine (desk_take D4 1).mono ?_
  rw [e1]
  rintro e w5 ⟨r1, rfl, O5, D5, _⟩
  clear D4 e1
  obtain ⟨ra1, rc1, hr1⟩ := ownsRow_slice O5.1.1
  subst hr1
  unfold Snp.val
  go_wp2_with fail
  refine (desk_take D5 2).mono ?_
  rw [e2]
  rintro e w6 ⟨r2, rfl, O6, D6, b6⟩
  have O56 := (O5.recol (c' := col (col c4 w4.heap.size 9) w5.heap.size 9) (fun b hb => col_old hb)).same b6
  clear D5 e2 O5 b6
  obtain ⟨ra2, rc2, hr2⟩ := ownsRow_slice O6.1.1
  subst hr2
  unfold Snp.val
  go_wp2_with fail
  obtain ⟨c6, hc6⟩ : ∃ c6, c6 = col (col c4 w4.heap.size 9) w5.heap.size 9 := ⟨_, rfl⟩
  rw [← hc6] at O6 D6 O56
  clear hc6
  have hal : Below w6.heap.size w6 ((w6.alloc (.cells #[.int .u64 1, .int .u64 2, .int .u64 3, .slice ra1 1 rc1] 66)).alloc (.cells #[.int .u64 2, .int .u64 1, .int .u64 3, .slice ra2 1 rc2] 66)) := ((Below.refl _ _).alloc (Nat.le_refl _) _).alloc (by simp) _
  have hA := block_alloc (heap_new1 w6 (.cells #[.int .u64 1, .int .u64 2, .int .u64 3, .slice ra1 1 rc1] 66)) (.cells #[.int .u64 2, .int .u64 1, .int .u64 3, .slice ra2 1 rc2] 66)
  have hB := heap_new2 w6 (.cells #[.int .u64 1, .int .u64 2, .int .u64 3, .slice ra1 1 rc1] 66) (.cells #[.int .u64 2, .int .u64 1, .int .u64 3, .slice ra2 1 rc2] 66)
  obtain ⟨w7, hw7⟩ : ∃ w7, w7 = ((w6.alloc (.cells #[.int .u64 1, .int .u64 2, .int .u64 3, .slice ra1 1 rc1] 66)).alloc (.cells #[.int .u64 2, .int .u64 1, .int .u64 3, .slice ra2 1 rc2] 66)) := ⟨_, rfl⟩
  obtain ⟨c7, hc7⟩ : ∃ c7, c7 = col c6 w6.heap.size 9 := ⟨_, rfl⟩
  rw [← hw7] at hal hA hB
  have D7 : Desk w0 c7 w7 pl p [1, 1] (.slice none 0 0) (.slice none 0 0) [] [] 0 := by rw [hc7]; exact (D6.recol (fun b hb => col_old hb)).same hal
  have O71 : Own9 c7 w7 (.slice ra1 1 rc1) [2] := by rw [hc7]; exact (O56.recol (fun b hb => col_old hb)).same hal
  have O72 : Own9 c7 w7 (.slice ra2 1 rc2) [1] := by rw [hc7]; exact (O6.recol (fun b hb => col_old hb)).same hal
  obtain ⟨q5, hq5⟩ : ∃ q5, q5 = w6.heap.size + 1 := ⟨_, rfl⟩
  obtain ⟨q4, hq4⟩ : ∃ q4, q4 = w6.heap.size := ⟨_, rfl⟩
  have hn4 : c7 q4 = 9 := by rw [hc7, hq4]; exact col_new (Nat.le_refl _)
  have hn5 : c7 q5 = 9 := by rw [hc7, hq5]; exact col_new (by omega)
  rw [← hq4] at hA
  rw [← hq5] at hB
  rw [← hw7, ← hq5, ← hq4]
  have W7 : Two w0 c7 w7 pl p [1, 1] (.slice none 0 0) (.slice none 0 0) [] [] 0 q4 ⟨1, 2, 3, [2]⟩ ra1 rc1 q5 ⟨2, 1, 3, [1]⟩ ra2 rc2 := ⟨D7, ⟨hA, hn4, O71⟩, ⟨hB, hn5, O72⟩⟩
  clear hw7 hc7 hq4 hq5 hA hB hal O6 D6 O56 D7 O71 O72 hn4 hn5
  have t1 : takenE 1 [1, 1] ⟨1, 2, 3, [2]⟩ nameT [] 0 = 0 := rfl
  have HCR := Lib.hid (show ∀ w', Below w7.heap.size w7 w' → ∀ g, ColsAt w' (.slice (some ⟨g, 0, none⟩) 1 1) → Calls Try.prog 48 #[.pointer (some ⟨p, 0, none⟩), .pointer (some ⟨pl, 0, none⟩), .agg #[.int .u64 1, .int .u64 2, .int .u64 3, .slice ra1 1 rc1], .string { data := #[116] }, .slice (some ⟨g, 0, none⟩) 1 1] w' fun r w'' => r = .returned (.tuple #[.int .u64 1, .int .i64 0]) ∧
      ∃ c' v' bt cv', Two w0 c' w'' pl p [1, 1] v' (.slice none 0 0) [(bt, ⟨1, nameT, 1, 0⟩, cv')] [] 1 q4 ⟨1, 2, 3, [2]⟩ ra1 rc1 q5 ⟨2, 1, 3, [1]⟩ ra2 rc2 from fun w' hb g hc =>
    two_create (W7.same hb) nameT (by decide) hc isName_t t1 (by decide) (by decide))
  clear t1
  obtain ⟨a0, a1, a2, a3⟩ := W7.a.four
  have a0 : w7.cell? ⟨q4, 0, none⟩ = some (.int .u64 1) := a0
  have a1 : w7.cell? ⟨q4, 1, none⟩ = some (.int .u64 2) := a1
  have a2 : w7.cell? ⟨q4, 2, none⟩ = some (.int .u64 3) := a2
  have a3 : w7.cell? ⟨q4, 3, none⟩ = some (.slice ra1 1 rc1) := a3
  have hC0 : Below w7.heap.size w7 w7.drew := below_drewN (n := 1)
  go_region_held3 (fun z => z.cell? ⟨q4, 0, none⟩ = some (.int .u64 1) ∧ z.cell? ⟨q4, 1, none⟩ = some (.int .u64 2) ∧ z.cell? ⟨q4, 2, none⟩ = some (.int .u64 3) ∧ z.cell? ⟨q4, 3, none⟩ = some (.slice ra1 1 rc1))
    (first | exact ⟨W8.a.four.1, W8.a.four.2.1, W8.a.four.2.2.1, W8.a.four.2.2.2⟩ | exact ⟨keeper hC1 a0, keeper hC1 a1, keeper hC1 a2, keeper hC1 a3⟩ | exact ⟨keeper hC0 a0, keeper hC0 a1, keeper hC0 a2, keeper hC0 a3⟩)
    (first
      | (have _h := hC1; go_at_call 48; (with_reducible refine (HCR.out _ hC1 _ hcx).mono ?_); rintro e w8 ⟨rfl, c8, v8, b8, cv8, W8⟩)
      | (go_at_call 49; (with_reducible refine (one_at _).mono ?_); rintro e wx ⟨gx, rfl, _, hcx, hkx⟩; have hC1 := hC0.trans (hkx.mono hC0.size)))
  clear hkx hC0 hC1 HCR a0 a1 a2 a3 W7 hcx
  have W9 := W8
  clear W8
  have hB0 : Below w8.heap.size w8 w8 := Below.refl _ _
  have HT1 : ∀ w', Below w8.heap.size w8 w' → Calls Try.prog 54 #[.pointer (some ⟨p, 0, none⟩), .pointer (some ⟨pl, 0, none⟩), .agg #[.int .u64 1, .int .u64 2, .int .u64 3, .slice ra1 1 rc1], .string { data := #[116] }] w' fun r w'' => (∃ g cap, r = .returned (.tuple #[.agg #[.int .u64 1, .string nameT, .slice (some ⟨g, 0, none⟩) 1 cap, .int .u64 1, .int .u64 0], .bool true])) ∧ Below w'.heap.size w' w'' := fun w' hb =>
    table_some (W9.d.b.same hb) (W9.d.l.same hb) (s := ⟨1, 2, 3, [2]⟩) (W9.a.run.1.same hb) nameT (t := (b8, ⟨1, nameT, 1, 0⟩, cv8)) (by rfl)
  have HT1 := Lib.hid HT1
  have HT2 : ∀ w', Below w8.heap.size w8 w' → Calls Try.prog 54 #[.pointer (some ⟨p, 0, none⟩), .pointer (some ⟨pl, 0, none⟩), .agg #[.int .u64 2, .int .u64 1, .int .u64 3, .slice ra2 1 rc2], .string { data := #[116] }] w' fun r w'' => r = .returned (.tuple #[.agg #[.int .u64 0, .string ⟨#[]⟩, .slice none 0 0, .int .u64 0, .int .u64 0], .bool false]) ∧ Below w'.heap.size w' w'' := fun w' hb =>
    table_none (W9.d.b.same hb) (W9.d.l.same hb) (s := ⟨2, 1, 3, [1]⟩) (W9.b.run.1.same hb) nameT (by rfl)
  have HT2 := Lib.hid HT2
  have a0 : w8.cell? ⟨q4, 0, none⟩ = some (.int .u64 1) := keeper hB0 W9.a.four.1
  have a1 : w8.cell? ⟨q4, 1, none⟩ = some (.int .u64 2) := keeper hB0 W9.a.four.2.1
  have a2 : w8.cell? ⟨q4, 2, none⟩ = some (.int .u64 3) := keeper hB0 W9.a.four.2.2.1
  have a3 : w8.cell? ⟨q4, 3, none⟩ = some (.slice ra1 1 rc1) := keeper hB0 W9.a.four.2.2.2
  go_wp2_with fail
  refine (HT1.out _ hB0).mono ?_
  rintro e w10 ⟨⟨g1, cap1, rfl⟩, hk10⟩
  have hB1 := (hB0.trans (hk10.mono hB0.size)).alloc (hB0.trans (hk10.mono hB0.size)).size (.cells #[.int .u64 1, .string nameT, .slice (some ⟨g1, 0, none⟩) 1 cap1, .int .u64 1, .int .u64 0] 111)
  clear a0 a1 a2 a3 HT1
  have a0 : (w10.alloc (.cells #[.int .u64 1, .string nameT, .slice (some ⟨g1, 0, none⟩) 1 cap1, .int .u64 1, .int .u64 0] 111)).cell? ⟨q5, 0, none⟩ = some (.int .u64 2) := keeper hB1 W9.b.four.1
  have a1 : (w10.alloc (.cells #[.int .u64 1, .string nameT, .slice (some ⟨g1, 0, none⟩) 1 cap1, .int .u64 1, .int .u64 0] 111)).cell? ⟨q5, 1, none⟩ = some (.int .u64 1) := keeper hB1 W9.b.four.2.1
  have a2 : (w10.alloc (.cells #[.int .u64 1, .string nameT, .slice (some ⟨g1, 0, none⟩) 1 cap1, .int .u64 1, .int .u64 0] 111)).cell? ⟨q5, 2, none⟩ = some (.int .u64 3) := keeper hB1 W9.b.four.2.2.1
  have a3 : (w10.alloc (.cells #[.int .u64 1, .string nameT, .slice (some ⟨g1, 0, none⟩) 1 cap1, .int .u64 1, .int .u64 0] 111)).cell? ⟨q5, 3, none⟩ = some (.slice ra2 1 rc2) := keeper hB1 W9.b.four.2.2.2
  go_wp2_with fail
  refine (HT2.out _ hB1).mono ?_
  rintro e w11 ⟨rfl, hk11⟩
  have hB2 := (hB1.trans (hk11.mono hB1.size)).alloc (hB1.trans (hk11.mono hB1.size)).size (.cells #[.int .u64 0, .string ⟨#[]⟩, .slice none 0 0, .int .u64 0, .int .u64 0] 111)
  have W12 := W9.same hB2
  clear a0 a1 a2 a3 HT2
  go_wp2_with fail
  refine (two_commit W12 1).mono ?_
  rintro e w12 ⟨rfl, W13⟩
  have W13 : Two w0 c8 w12 pl p [2, 1] v8 (.slice none 0 0) [(b8, ⟨1, nameT, 1, 0⟩, cv8)] [] 1 q4 ⟨1, 2, 3, [2]⟩ ra1 rc1 q5 ⟨2, 1, 3, [1]⟩ ra2 rc2 := W13
  clear W12
  go_wp2_with fail
  refine (two_begin W13 (by decide)).mono ?_
  rintro e w13 ⟨rfl, c13, W14⟩
  have W14 : Two w0 c13 w13 pl p [2, 1, 1] v8 (.slice none 0 0) [(b8, ⟨1, nameT, 1, 0⟩, cv8)] [] 1 q4 ⟨1, 2, 3, [2]⟩ ra1 rc1 q5 ⟨2, 1, 3, [1]⟩ ra2 rc2 := W14
  clear W13
  go_wp2_with fail
  have e3 : Ytdohkjpapmkhjaa.take 1 [2, 1, 1] 3 = ⟨3, 2, 4, [2]⟩ := rfl
  refine (desk_take W14.d 3).mono ?_
  rw [e3]
  rintro e w14 ⟨r3, rfl, O15, D15, hk14⟩
  have W15 := (W14.recol (c' := col c13 w13.heap.size 9) (fun b hb => col_old hb)).same hk14
  clear W14 e3 D15 hk14
  obtain ⟨ra3, rc3, hr3⟩ := ownsRow_slice O15.1.1
  subst hr3
  unfold Snp.val
  have hz14 : Below w14.heap.size w14 (w14.alloc (.cells #[.int .u64 3, .int .u64 2, .int .u64 4, .slice ra3 1 rc3] 66)) := below_alloc _ _
  have h14 := heap_new1 w14 (.cells #[.int .u64 3, .int .u64 2, .int .u64 4, .slice ra3 1 rc3] 66)
  have HT3 : ∀ w', Below w14.heap.size w14 w' → Calls Try.prog 54 #[.pointer (some ⟨p, 0, none⟩), .pointer (some ⟨pl, 0, none⟩), .agg #[.int .u64 2, .int .u64 1, .int .u64 3, .slice ra2 1 rc2], .string { data := #[116] }] w' fun r w'' => r = .returned (.tuple #[.agg #[.int .u64 0, .string ⟨#[]⟩, .slice none 0 0, .int .u64 0, .int .u64 0], .bool false]) ∧ Below w'.heap.size w' w'' := fun w' hb =>
    table_none (W15.d.b.same hb) (W15.d.l.same hb) (s := ⟨2, 1, 3, [1]⟩) (W15.b.run.1.same hb) nameT (by rfl)
  have HT3 := Lib.hid HT3
  have HT4 : ∀ w', Below w14.heap.size w14 w' → Calls Try.prog 54 #[.pointer (some ⟨p, 0, none⟩), .pointer (some ⟨pl, 0, none⟩), .agg #[.int .u64 3, .int .u64 2, .int .u64 4, .slice ra3 1 rc3], .string { data := #[116] }] w' fun r w'' => (∃ g cap, r = .returned (.tuple #[.agg #[.int .u64 1, .string nameT, .slice (some ⟨g, 0, none⟩) 1 cap, .int .u64 1, .int .u64 0], .bool true])) ∧ Below w'.heap.size w' w'' := fun w' hb =>
    table_some (W15.d.b.same hb) (W15.d.l.same hb) (s := ⟨3, 2, 4, [2]⟩) (O15.1.same hb) nameT (t := (b8, ⟨1, nameT, 1, 0⟩, cv8)) (by rfl)
  have HT4 := Lib.hid HT4
  have HI1 : ∀ w', Below w14.heap.size w14 w' → Calls Try.prog 55 #[.pointer (some ⟨p, 0, none⟩), .pointer (some ⟨pl, 0, none⟩), .agg #[.int .u64 3, .int .u64 2, .int .u64 4, .slice ra3 1 rc3], .int .u64 1] w' fun r w'' => (∃ a cap, r = .returned (.slice a 0 cap)) ∧ Below w'.heap.size w' w'' := fun w' hb =>
    (indexes_at (W15.d.b.same hb) (W15.d.l.same hb) (s := ⟨3, 2, 4, [2]⟩) (O15.1.same hb) 1).mono fun r w'' ⟨v, h1, h2, h3⟩ => by
      obtain ⟨a, cap, e⟩ := ownsRow_slice h2
      rw [e] at h1
      exact ⟨⟨a, cap, h1⟩, h3⟩
  have HI1 := Lib.hid HI1
  have HI2 : ∀ w', Below w14.heap.size w14 w' → Calls Try.prog 55 #[.pointer (some ⟨p, 0, none⟩), .pointer (some ⟨pl, 0, none⟩), .agg #[.int .u64 2, .int .u64 1, .int .u64 3, .slice ra2 1 rc2], .int .u64 1] w' fun r w'' => (∃ a cap, r = .returned (.slice a 0 cap)) ∧ Below w'.heap.size w' w'' := fun w' hb =>
    (indexes_at (W15.d.b.same hb) (W15.d.l.same hb) (s := ⟨2, 1, 3, [1]⟩) (W15.b.run.1.same hb) 1).mono fun r w'' ⟨v, h1, h2, h3⟩ => by
      obtain ⟨a, cap, e⟩ := ownsRow_slice h2
      rw [e] at h1
      exact ⟨⟨a, cap, h1⟩, h3⟩
  have HI2 := Lib.hid HI2
  have a0 : (w14.alloc (.cells #[.int .u64 3, .int .u64 2, .int .u64 4, .slice ra3 1 rc3] 66)).cell? ⟨q5, 0, none⟩ = some (.int .u64 2) := keeper hz14 W15.b.four.1
  have a1 : (w14.alloc (.cells #[.int .u64 3, .int .u64 2, .int .u64 4, .slice ra3 1 rc3] 66)).cell? ⟨q5, 1, none⟩ = some (.int .u64 1) := keeper hz14 W15.b.four.2.1
  have a2 : (w14.alloc (.cells #[.int .u64 3, .int .u64 2, .int .u64 4, .slice ra3 1 rc3] 66)).cell? ⟨q5, 2, none⟩ = some (.int .u64 3) := keeper hz14 W15.b.four.2.2.1
  have a3 : (w14.alloc (.cells #[.int .u64 3, .int .u64 2, .int .u64 4, .slice ra3 1 rc3] 66)).cell? ⟨q5, 3, none⟩ = some (.slice ra2 1 rc2) := keeper hz14 W15.b.four.2.2.2
  go_wp2_with fail
  clear a0 a1 a2 a3
  obtain ⟨w15, hw15⟩ : ∃ w15, w15 = w14.alloc (.cells #[.int .u64 3, .int .u64 2, .int .u64 4, .slice ra3 1 rc3] 66) := ⟨_, rfl⟩
  obtain ⟨q6, hq6⟩ : ∃ q6, q6 = w14.heap.size := ⟨_, rfl⟩
  rw [← hw15] at hz14 h14
  rw [← hq6] at h14
  rw [← hw15, ← hq6]
  clear hw15 hq6
  have x0 : w15.cell? ⟨q6, 0, none⟩ = some (.int .u64 3) := cell_of_block h14 rfl
  have x1 : w15.cell? ⟨q6, 1, none⟩ = some (.int .u64 2) := cell_of_block h14 rfl
  have x2 : w15.cell? ⟨q6, 2, none⟩ = some (.int .u64 4) := cell_of_block h14 rfl
  have x3 : w15.cell? ⟨q6, 3, none⟩ = some (.slice ra3 1 rc3) := cell_of_block h14 rfl
  refine (HT3.out _ hz14).mono ?_
  rintro e w16 ⟨rfl, hk16⟩
  have hz16 := (hz14.trans (hk16.mono hz14.size)).alloc (hz14.trans (hk16.mono hz14.size)).size (.cells #[.int .u64 0, .string ⟨#[]⟩, .slice none 0 0, .int .u64 0, .int .u64 0] 111)
  have hk16a := hk16.alloc hk16.size (.cells #[.int .u64 0, .string ⟨#[]⟩, .slice none 0 0, .int .u64 0, .int .u64 0] 111)
  have a0 : (w16.alloc (.cells #[.int .u64 0, .string ⟨#[]⟩, .slice none 0 0, .int .u64 0, .int .u64 0] 111)).cell? ⟨q6, 0, none⟩ = some (.int .u64 3) := keeper hk16a x0
  have a1 : (w16.alloc (.cells #[.int .u64 0, .string ⟨#[]⟩, .slice none 0 0, .int .u64 0, .int .u64 0] 111)).cell? ⟨q6, 1, none⟩ = some (.int .u64 2) := keeper hk16a x1
  have a2 : (w16.alloc (.cells #[.int .u64 0, .string ⟨#[]⟩, .slice none 0 0, .int .u64 0, .int .u64 0] 111)).cell? ⟨q6, 2, none⟩ = some (.int .u64 4) := keeper hk16a x2
  have a3 : (w16.alloc (.cells #[.int .u64 0, .string ⟨#[]⟩, .slice none 0 0, .int .u64 0, .int .u64 0] 111)).cell? ⟨q6, 3, none⟩ = some (.slice ra3 1 rc3) := keeper hk16a x3
  clear HT3
  go_wp2_with fail
  clear a0 a1 a2 a3
  refine (HT4.out _ hz16).mono ?_
  rintro e w17 ⟨⟨g4, cap4, rfl⟩, hk17⟩
  have hz17 := (hz16.trans (hk17.mono hz16.size)).alloc (hz16.trans (hk17.mono hz16.size)).size (.cells #[.int .u64 1, .string nameT, .slice (some ⟨g4, 0, none⟩) 1 cap4, .int .u64 1, .int .u64 0] 111)
  have hk17a := hk16a.trans ((hk17.alloc hk17.size (.cells #[.int .u64 1, .string nameT, .slice (some ⟨g4, 0, none⟩) 1 cap4, .int .u64 1, .int .u64 0] 111)).mono hk16a.size)
  have a0 : (w17.alloc (.cells #[.int .u64 1, .string nameT, .slice (some ⟨g4, 0, none⟩) 1 cap4, .int .u64 1, .int .u64 0] 111)).cell? ⟨q6, 0, none⟩ = some (.int .u64 3) := keeper hk17a x0
  have a1 : (w17.alloc (.cells #[.int .u64 1, .string nameT, .slice (some ⟨g4, 0, none⟩) 1 cap4, .int .u64 1, .int .u64 0] 111)).cell? ⟨q6, 1, none⟩ = some (.int .u64 2) := keeper hk17a x1
  have a2 : (w17.alloc (.cells #[.int .u64 1, .string nameT, .slice (some ⟨g4, 0, none⟩) 1 cap4, .int .u64 1, .int .u64 0] 111)).cell? ⟨q6, 2, none⟩ = some (.int .u64 4) := keeper hk17a x2
  have a3 : (w17.alloc (.cells #[.int .u64 1, .string nameT, .slice (some ⟨g4, 0, none⟩) 1 cap4, .int .u64 1, .int .u64 0] 111)).cell? ⟨q6, 3, none⟩ = some (.slice ra3 1 rc3) := keeper hk17a x3
  clear HT4
  go_wp2_with fail
  clear a0 a1 a2 a3
  refine (HI1.out _ hz17).mono ?_
  rintro e w18 ⟨⟨ia1, ic1, rfl⟩, hk18⟩
  have hz18 := hz17.trans (hk18.mono hz17.size)
  have a0 : w18.cell? ⟨q5, 0, none⟩ = some (.int .u64 2) := keeper hz18 W15.b.four.1
  have a1 : w18.cell? ⟨q5, 1, none⟩ = some (.int .u64 1) := keeper hz18 W15.b.four.2.1
  have a2 : w18.cell? ⟨q5, 2, none⟩ = some (.int .u64 3) := keeper hz18 W15.b.four.2.2.1
  have a3 : w18.cell? ⟨q5, 3, none⟩ = some (.slice ra2 1 rc2) := keeper hz18 W15.b.four.2.2.2
  go_wp2_with fail
  clear a0 a1 a2 a3
  refine (HI2.out _ hz18).mono ?_
  rintro e w19 ⟨⟨ia2, ic2, rfl⟩, hk19⟩
  have hz19 := hz18.trans (hk19.mono hz18.size)
  go_wp2_with fail
  go_ret
  exact ⟨rfl, b0.trans ((W15.same hz19).d.below.mono b0.size)⟩

set_option maxHeartbeats 8000000 in
set_option maxRecDepth 100000 in
theorem own_false_true (w : World) : Calls Try.prog 14 #[.bool false, .bool true] w fun e w' => e = .returned (.bool true) ∧ Below w.heap.size w w' := by
  go_enter Try.func14, Try.ntmps14
  go_wp2_with fail
  refine (awake_eleven w).mono ?_
  rintro e w0 ⟨rfl, b0⟩
  go_wp2_with fail
  refine (new_ok 1 w0 (by decide) (by decide) (fun _ => 0) 1).mono ?_
  rintro e w1 ⟨rfl, l1, b1⟩
  go_wp2_with fail
  refine (bnew_at w1 (col (fun _ => 0) w0.heap.size 1) 2).mono ?_
  rintro e w2 ⟨rfl, k2, b2⟩
  have D2 : Desk w0 (col (col (fun _ => 0) w0.heap.size 1) w1.heap.size 2) w2 w0.heap.size w1.heap.size [] (.slice none 0 0) (.slice none 0 0) [] [] 0 :=
    ⟨(l1.recol (fun b hb => col_old hb)).same b2, k2, fun b hb => by rw [col_old (Nat.lt_of_lt_of_le hb b1.size), col_old hb], b1.trans (b2.mono b1.size)⟩
  clear l1 k2 b1 b2
  obtain ⟨pl, hpl⟩ : ∃ pl, pl = w0.heap.size := ⟨_, rfl⟩
  obtain ⟨p, hp⟩ : ∃ p, p = w1.heap.size := ⟨_, rfl⟩
  obtain ⟨c2, hc2⟩ : ∃ c2, c2 = col (col (fun _ => 0) w0.heap.size 1) w1.heap.size 2 := ⟨_, rfl⟩
  rw [← hc2] at D2
  rw [← hpl, ← hp] at D2
  rw [← hpl, ← hp]
  clear hc2 hpl hp
  go_wp2_with fail
  refine (desk_begin D2 (by decide)).mono ?_
  rintro e w3 ⟨rfl, D3, _⟩
  clear D2
  go_wp2_with fail
  refine (desk_begin D3 (by decide)).mono ?_
  rintro e w4 ⟨rfl, D4, _⟩
  clear D3
  obtain ⟨c4, D4⟩ : ∃ c4, Desk w0 c4 w4 pl p [1, 1] (.slice none 0 0) (.slice none 0 0) [] [] 0 := ⟨_, D4⟩
  go_wp2_with fail
  have e1 : Ytdohkjpapmkhjaa.take 1 [1, 1] 1 = ⟨1, 2, 3, [2]⟩ := rfl
  have e2 : Ytdohkjpapmkhjaa.take 1 [1, 1] 2 = ⟨2, 1, 3, [1]⟩ := rfl
  refine (desk_take D4 1).mono ?_
  rw [e1]
  rintro e w5 ⟨r1, rfl, O5, D5, _⟩
  clear D4 e1
  obtain ⟨ra1, rc1, hr1⟩ := ownsRow_slice O5.1.1
  subst hr1
  unfold Snp.val
  go_wp2_with fail
  refine (desk_take D5 2).mono ?_
  rw [e2]
  rintro e w6 ⟨r2, rfl, O6, D6, b6⟩
  have O56 := (O5.recol (c' := col (col c4 w4.heap.size 9) w5.heap.size 9) (fun b hb => col_old hb)).same b6
  clear D5 e2 O5 b6
  obtain ⟨ra2, rc2, hr2⟩ := ownsRow_slice O6.1.1
  subst hr2
  unfold Snp.val
  go_wp2_with fail
  obtain ⟨c6, hc6⟩ : ∃ c6, c6 = col (col c4 w4.heap.size 9) w5.heap.size 9 := ⟨_, rfl⟩
  rw [← hc6] at O6 D6 O56
  clear hc6
  have hal : Below w6.heap.size w6 ((w6.alloc (.cells #[.int .u64 1, .int .u64 2, .int .u64 3, .slice ra1 1 rc1] 66)).alloc (.cells #[.int .u64 2, .int .u64 1, .int .u64 3, .slice ra2 1 rc2] 66)) := ((Below.refl _ _).alloc (Nat.le_refl _) _).alloc (by simp) _
  have hA := block_alloc (heap_new1 w6 (.cells #[.int .u64 1, .int .u64 2, .int .u64 3, .slice ra1 1 rc1] 66)) (.cells #[.int .u64 2, .int .u64 1, .int .u64 3, .slice ra2 1 rc2] 66)
  have hB := heap_new2 w6 (.cells #[.int .u64 1, .int .u64 2, .int .u64 3, .slice ra1 1 rc1] 66) (.cells #[.int .u64 2, .int .u64 1, .int .u64 3, .slice ra2 1 rc2] 66)
  obtain ⟨w7, hw7⟩ : ∃ w7, w7 = ((w6.alloc (.cells #[.int .u64 1, .int .u64 2, .int .u64 3, .slice ra1 1 rc1] 66)).alloc (.cells #[.int .u64 2, .int .u64 1, .int .u64 3, .slice ra2 1 rc2] 66)) := ⟨_, rfl⟩
  obtain ⟨c7, hc7⟩ : ∃ c7, c7 = col c6 w6.heap.size 9 := ⟨_, rfl⟩
  rw [← hw7] at hal hA hB
  have D7 : Desk w0 c7 w7 pl p [1, 1] (.slice none 0 0) (.slice none 0 0) [] [] 0 := by rw [hc7]; exact (D6.recol (fun b hb => col_old hb)).same hal
  have O71 : Own9 c7 w7 (.slice ra1 1 rc1) [2] := by rw [hc7]; exact (O56.recol (fun b hb => col_old hb)).same hal
  have O72 : Own9 c7 w7 (.slice ra2 1 rc2) [1] := by rw [hc7]; exact (O6.recol (fun b hb => col_old hb)).same hal
  obtain ⟨q5, hq5⟩ : ∃ q5, q5 = w6.heap.size + 1 := ⟨_, rfl⟩
  obtain ⟨q4, hq4⟩ : ∃ q4, q4 = w6.heap.size := ⟨_, rfl⟩
  have hn4 : c7 q4 = 9 := by rw [hc7, hq4]; exact col_new (Nat.le_refl _)
  have hn5 : c7 q5 = 9 := by rw [hc7, hq5]; exact col_new (by omega)
  rw [← hq4] at hA
  rw [← hq5] at hB
  rw [← hw7, ← hq5, ← hq4]
  have W7 : Two w0 c7 w7 pl p [1, 1] (.slice none 0 0) (.slice none 0 0) [] [] 0 q4 ⟨1, 2, 3, [2]⟩ ra1 rc1 q5 ⟨2, 1, 3, [1]⟩ ra2 rc2 := ⟨D7, ⟨hA, hn4, O71⟩, ⟨hB, hn5, O72⟩⟩
  clear hw7 hc7 hq4 hq5 hA hB hal O6 D6 O56 D7 O71 O72 hn4 hn5
  have t1 : takenE 1 [1, 1] ⟨1, 2, 3, [2]⟩ nameT [] 0 = 0 := rfl
  have HCR := Lib.hid (show ∀ w', Below w7.heap.size w7 w' → ∀ g, ColsAt w' (.slice (some ⟨g, 0, none⟩) 1 1) → Calls Try.prog 48 #[.pointer (some ⟨p, 0, none⟩), .pointer (some ⟨pl, 0, none⟩), .agg #[.int .u64 1, .int .u64 2, .int .u64 3, .slice ra1 1 rc1], .string { data := #[116] }, .slice (some ⟨g, 0, none⟩) 1 1] w' fun r w'' => r = .returned (.tuple #[.int .u64 1, .int .i64 0]) ∧
      ∃ c' v' bt cv', Two w0 c' w'' pl p [1, 1] v' (.slice none 0 0) [(bt, ⟨1, nameT, 1, 0⟩, cv')] [] 1 q4 ⟨1, 2, 3, [2]⟩ ra1 rc1 q5 ⟨2, 1, 3, [1]⟩ ra2 rc2 from fun w' hb g hc =>
    two_create (W7.same hb) nameT (by decide) hc isName_t t1 (by decide) (by decide))
  clear t1
  obtain ⟨a0, a1, a2, a3⟩ := W7.a.four
  have a0 : w7.cell? ⟨q4, 0, none⟩ = some (.int .u64 1) := a0
  have a1 : w7.cell? ⟨q4, 1, none⟩ = some (.int .u64 2) := a1
  have a2 : w7.cell? ⟨q4, 2, none⟩ = some (.int .u64 3) := a2
  have a3 : w7.cell? ⟨q4, 3, none⟩ = some (.slice ra1 1 rc1) := a3
  have hC0 : Below w7.heap.size w7 w7.drew := below_drewN (n := 1)
  go_region_held3 (fun z => z.cell? ⟨q4, 0, none⟩ = some (.int .u64 1) ∧ z.cell? ⟨q4, 1, none⟩ = some (.int .u64 2) ∧ z.cell? ⟨q4, 2, none⟩ = some (.int .u64 3) ∧ z.cell? ⟨q4, 3, none⟩ = some (.slice ra1 1 rc1))
    (first | exact ⟨W8.a.four.1, W8.a.four.2.1, W8.a.four.2.2.1, W8.a.four.2.2.2⟩ | exact ⟨keeper hC1 a0, keeper hC1 a1, keeper hC1 a2, keeper hC1 a3⟩ | exact ⟨keeper hC0 a0, keeper hC0 a1, keeper hC0 a2, keeper hC0 a3⟩)
    (first
      | (have _h := hC1; go_at_call 48; (with_reducible refine (HCR.out _ hC1 _ hcx).mono ?_); rintro e w8 ⟨rfl, c8, v8, b8, cv8, W8⟩)
      | (go_at_call 49; (with_reducible refine (one_at _).mono ?_); rintro e wx ⟨gx, rfl, _, hcx, hkx⟩; have hC1 := hC0.trans (hkx.mono hC0.size)))
  clear hkx hC0 hC1 HCR a0 a1 a2 a3 W7 hcx
  have W9 := W8
  have HMK : Calls Try.prog 53 #[.pointer (some ⟨p, 0, none⟩), .pointer (some ⟨pl, 0, none⟩), .agg #[.int .u64 1, .int .u64 2, .int .u64 3, .slice ra1 1 rc1], .string { data := #[105] }, .string { data := #[116] }, .string { data := #[97] }] w8 fun r w' => r = .returned (.tuple #[.agg #[.int .u64 2, .string { data := #[105] }, .int .u64 1, .int .i64 0, .int .u64 1, .int .u64 0], .int .i64 0]) ∧
      ∃ c' v' bt, Two w0 c' w' pl p [1, 1] v8 v' [(b8, ⟨1, nameT, 1, 0⟩, cv8)] [(bt, ⟨2, nameI, 1, 0⟩, 1)] 2 q4 ⟨1, 2, 3, [2]⟩ ra1 rc1 q5 ⟨2, 1, 3, [1]⟩ ra2 rc2 :=
    two_mkind W8 nameI nameT (by decide) isName_i (t := (b8, ⟨1, nameT, 1, 0⟩, cv8)) rfl (by show takenE 1 [1, 1] ⟨1, 2, 3, [2]⟩ nameI [⟨1, nameT, 1, 0⟩] 0 = 0; decide +kernel) (by decide) (by decide)
  have HMK := Lib.hid HMK
  obtain ⟨a0, a1, a2, a3⟩ := W8.a.four
  have a0 : w8.cell? ⟨q4, 0, none⟩ = some (.int .u64 1) := a0
  have a1 : w8.cell? ⟨q4, 1, none⟩ = some (.int .u64 2) := a1
  have a2 : w8.cell? ⟨q4, 2, none⟩ = some (.int .u64 3) := a2
  have a3 : w8.cell? ⟨q4, 3, none⟩ = some (.slice ra1 1 rc1) := a3
  clear W9
  go_wp2_with fail
  refine HMK.out.mono ?_
  rintro e w9 ⟨rfl, c9, v9, bi, W9⟩
  clear HMK a0 a1 a2 a3 W8
  have hB0 : Below w9.heap.size w9 (w9.alloc (.cells #[.int .u64 2, .string { data := #[105] }, .int .u64 1, .int .i64 0, .int .u64 1, .int .u64 0] 107)) := below_alloc _ _
  have HT1 : ∀ w', Below w9.heap.size w9 w' → Calls Try.prog 54 #[.pointer (some ⟨p, 0, none⟩), .pointer (some ⟨pl, 0, none⟩), .agg #[.int .u64 1, .int .u64 2, .int .u64 3, .slice ra1 1 rc1], .string { data := #[116] }] w' fun r w'' => (∃ g cap, r = .returned (.tuple #[.agg #[.int .u64 1, .string nameT, .slice (some ⟨g, 0, none⟩) 1 cap, .int .u64 1, .int .u64 0], .bool true])) ∧ Below w'.heap.size w' w'' := fun w' hb =>
    table_some (W9.d.b.same hb) (W9.d.l.same hb) (s := ⟨1, 2, 3, [2]⟩) (W9.a.run.1.same hb) nameT (t := (b8, ⟨1, nameT, 1, 0⟩, cv8)) (by rfl)
  have HT1 := Lib.hid HT1
  have HT2 : ∀ w', Below w9.heap.size w9 w' → Calls Try.prog 54 #[.pointer (some ⟨p, 0, none⟩), .pointer (some ⟨pl, 0, none⟩), .agg #[.int .u64 2, .int .u64 1, .int .u64 3, .slice ra2 1 rc2], .string { data := #[116] }] w' fun r w'' => r = .returned (.tuple #[.agg #[.int .u64 0, .string ⟨#[]⟩, .slice none 0 0, .int .u64 0, .int .u64 0], .bool false]) ∧ Below w'.heap.size w' w'' := fun w' hb =>
    table_none (W9.d.b.same hb) (W9.d.l.same hb) (s := ⟨2, 1, 3, [1]⟩) (W9.b.run.1.same hb) nameT (by rfl)
  have HT2 := Lib.hid HT2
  have a0 : (w9.alloc (.cells #[.int .u64 2, .string { data := #[105] }, .int .u64 1, .int .i64 0, .int .u64 1, .int .u64 0] 107)).cell? ⟨q4, 0, none⟩ = some (.int .u64 1) := keeper hB0 W9.a.four.1
  have a1 : (w9.alloc (.cells #[.int .u64 2, .string { data := #[105] }, .int .u64 1, .int .i64 0, .int .u64 1, .int .u64 0] 107)).cell? ⟨q4, 1, none⟩ = some (.int .u64 2) := keeper hB0 W9.a.four.2.1
  have a2 : (w9.alloc (.cells #[.int .u64 2, .string { data := #[105] }, .int .u64 1, .int .i64 0, .int .u64 1, .int .u64 0] 107)).cell? ⟨q4, 2, none⟩ = some (.int .u64 3) := keeper hB0 W9.a.four.2.2.1
  have a3 : (w9.alloc (.cells #[.int .u64 2, .string { data := #[105] }, .int .u64 1, .int .i64 0, .int .u64 1, .int .u64 0] 107)).cell? ⟨q4, 3, none⟩ = some (.slice ra1 1 rc1) := keeper hB0 W9.a.four.2.2.2
  go_wp2_with fail
  refine (HT1.out _ hB0).mono ?_
  rintro e w10 ⟨⟨g1, cap1, rfl⟩, hk10⟩
  have hB1 := (hB0.trans (hk10.mono hB0.size)).alloc (hB0.trans (hk10.mono hB0.size)).size (.cells #[.int .u64 1, .string nameT, .slice (some ⟨g1, 0, none⟩) 1 cap1, .int .u64 1, .int .u64 0] 111)
  clear a0 a1 a2 a3 HT1
  have a0 : (w10.alloc (.cells #[.int .u64 1, .string nameT, .slice (some ⟨g1, 0, none⟩) 1 cap1, .int .u64 1, .int .u64 0] 111)).cell? ⟨q5, 0, none⟩ = some (.int .u64 2) := keeper hB1 W9.b.four.1
  have a1 : (w10.alloc (.cells #[.int .u64 1, .string nameT, .slice (some ⟨g1, 0, none⟩) 1 cap1, .int .u64 1, .int .u64 0] 111)).cell? ⟨q5, 1, none⟩ = some (.int .u64 1) := keeper hB1 W9.b.four.2.1
  have a2 : (w10.alloc (.cells #[.int .u64 1, .string nameT, .slice (some ⟨g1, 0, none⟩) 1 cap1, .int .u64 1, .int .u64 0] 111)).cell? ⟨q5, 2, none⟩ = some (.int .u64 3) := keeper hB1 W9.b.four.2.2.1
  have a3 : (w10.alloc (.cells #[.int .u64 1, .string nameT, .slice (some ⟨g1, 0, none⟩) 1 cap1, .int .u64 1, .int .u64 0] 111)).cell? ⟨q5, 3, none⟩ = some (.slice ra2 1 rc2) := keeper hB1 W9.b.four.2.2.2
  go_wp2_with fail
  refine (HT2.out _ hB1).mono ?_
  rintro e w11 ⟨rfl, hk11⟩
  have hB2 := (hB1.trans (hk11.mono hB1.size)).alloc (hB1.trans (hk11.mono hB1.size)).size (.cells #[.int .u64 0, .string ⟨#[]⟩, .slice none 0 0, .int .u64 0, .int .u64 0] 111)
  have W12 := W9.same hB2
  clear a0 a1 a2 a3 HT2
  go_wp2_with fail
  refine (two_abort W12 1).mono ?_
  rintro e w12 ⟨rfl, W13⟩
  have W13 : Two w0 c9 w12 pl p [3, 1] v8 v9 [(b8, ⟨1, nameT, 1, 0⟩, cv8)] [(bi, ⟨2, nameI, 1, 0⟩, 1)] 2 q4 ⟨1, 2, 3, [2]⟩ ra1 rc1 q5 ⟨2, 1, 3, [1]⟩ ra2 rc2 := W13
  clear W12
  go_wp2_with fail
  refine (two_begin W13 (by decide)).mono ?_
  rintro e w13 ⟨rfl, c13, W14⟩
  have W14 : Two w0 c13 w13 pl p [3, 1, 1] v8 v9 [(b8, ⟨1, nameT, 1, 0⟩, cv8)] [(bi, ⟨2, nameI, 1, 0⟩, 1)] 2 q4 ⟨1, 2, 3, [2]⟩ ra1 rc1 q5 ⟨2, 1, 3, [1]⟩ ra2 rc2 := W14
  clear W13
  go_wp2_with fail
  have e3 : Ytdohkjpapmkhjaa.take 1 [3, 1, 1] 3 = ⟨3, 2, 4, [2]⟩ := rfl
  refine (desk_take W14.d 3).mono ?_
  rw [e3]
  rintro e w14 ⟨r3, rfl, O15, D15, hk14⟩
  have W15 := (W14.recol (c' := col c13 w13.heap.size 9) (fun b hb => col_old hb)).same hk14
  clear W14 e3 D15 hk14
  obtain ⟨ra3, rc3, hr3⟩ := ownsRow_slice O15.1.1
  subst hr3
  unfold Snp.val
  have hz14 : Below w14.heap.size w14 (w14.alloc (.cells #[.int .u64 3, .int .u64 2, .int .u64 4, .slice ra3 1 rc3] 66)) := below_alloc _ _
  have h14 := heap_new1 w14 (.cells #[.int .u64 3, .int .u64 2, .int .u64 4, .slice ra3 1 rc3] 66)
  have HT3 : ∀ w', Below w14.heap.size w14 w' → Calls Try.prog 54 #[.pointer (some ⟨p, 0, none⟩), .pointer (some ⟨pl, 0, none⟩), .agg #[.int .u64 2, .int .u64 1, .int .u64 3, .slice ra2 1 rc2], .string { data := #[116] }] w' fun r w'' => r = .returned (.tuple #[.agg #[.int .u64 0, .string ⟨#[]⟩, .slice none 0 0, .int .u64 0, .int .u64 0], .bool false]) ∧ Below w'.heap.size w' w'' := fun w' hb =>
    table_none (W15.d.b.same hb) (W15.d.l.same hb) (s := ⟨2, 1, 3, [1]⟩) (W15.b.run.1.same hb) nameT (by rfl)
  have HT3 := Lib.hid HT3
  have HT4 : ∀ w', Below w14.heap.size w14 w' → Calls Try.prog 54 #[.pointer (some ⟨p, 0, none⟩), .pointer (some ⟨pl, 0, none⟩), .agg #[.int .u64 3, .int .u64 2, .int .u64 4, .slice ra3 1 rc3], .string { data := #[116] }] w' fun r w'' => r = .returned (.tuple #[.agg #[.int .u64 0, .string ⟨#[]⟩, .slice none 0 0, .int .u64 0, .int .u64 0], .bool false]) ∧ Below w'.heap.size w' w'' := fun w' hb =>
    table_none (W15.d.b.same hb) (W15.d.l.same hb) (s := ⟨3, 2, 4, [2]⟩) (O15.1.same hb) nameT (by rfl)
  have HT4 := Lib.hid HT4
  have HI1 : ∀ w', Below w14.heap.size w14 w' → Calls Try.prog 55 #[.pointer (some ⟨p, 0, none⟩), .pointer (some ⟨pl, 0, none⟩), .agg #[.int .u64 3, .int .u64 2, .int .u64 4, .slice ra3 1 rc3], .int .u64 1] w' fun r w'' => (∃ a cap, r = .returned (.slice a 0 cap)) ∧ Below w'.heap.size w' w'' := fun w' hb =>
    (indexes_at (W15.d.b.same hb) (W15.d.l.same hb) (s := ⟨3, 2, 4, [2]⟩) (O15.1.same hb) 1).mono fun r w'' ⟨v, h1, h2, h3⟩ => by
      obtain ⟨a, cap, e⟩ := ownsRow_slice h2
      rw [e] at h1
      exact ⟨⟨a, cap, h1⟩, h3⟩
  have HI1 := Lib.hid HI1
  have HI2 : ∀ w', Below w14.heap.size w14 w' → Calls Try.prog 55 #[.pointer (some ⟨p, 0, none⟩), .pointer (some ⟨pl, 0, none⟩), .agg #[.int .u64 2, .int .u64 1, .int .u64 3, .slice ra2 1 rc2], .int .u64 1] w' fun r w'' => (∃ a cap, r = .returned (.slice a 0 cap)) ∧ Below w'.heap.size w' w'' := fun w' hb =>
    (indexes_at (W15.d.b.same hb) (W15.d.l.same hb) (s := ⟨2, 1, 3, [1]⟩) (W15.b.run.1.same hb) 1).mono fun r w'' ⟨v, h1, h2, h3⟩ => by
      obtain ⟨a, cap, e⟩ := ownsRow_slice h2
      rw [e] at h1
      exact ⟨⟨a, cap, h1⟩, h3⟩
  have HI2 := Lib.hid HI2
  have a0 : (w14.alloc (.cells #[.int .u64 3, .int .u64 2, .int .u64 4, .slice ra3 1 rc3] 66)).cell? ⟨q5, 0, none⟩ = some (.int .u64 2) := keeper hz14 W15.b.four.1
  have a1 : (w14.alloc (.cells #[.int .u64 3, .int .u64 2, .int .u64 4, .slice ra3 1 rc3] 66)).cell? ⟨q5, 1, none⟩ = some (.int .u64 1) := keeper hz14 W15.b.four.2.1
  have a2 : (w14.alloc (.cells #[.int .u64 3, .int .u64 2, .int .u64 4, .slice ra3 1 rc3] 66)).cell? ⟨q5, 2, none⟩ = some (.int .u64 3) := keeper hz14 W15.b.four.2.2.1
  have a3 : (w14.alloc (.cells #[.int .u64 3, .int .u64 2, .int .u64 4, .slice ra3 1 rc3] 66)).cell? ⟨q5, 3, none⟩ = some (.slice ra2 1 rc2) := keeper hz14 W15.b.four.2.2.2
  go_wp2_with fail
  clear a0 a1 a2 a3
  obtain ⟨w15, hw15⟩ : ∃ w15, w15 = w14.alloc (.cells #[.int .u64 3, .int .u64 2, .int .u64 4, .slice ra3 1 rc3] 66) := ⟨_, rfl⟩
  obtain ⟨q6, hq6⟩ : ∃ q6, q6 = w14.heap.size := ⟨_, rfl⟩
  rw [← hw15] at hz14 h14
  rw [← hq6] at h14
  rw [← hw15, ← hq6]
  clear hw15 hq6
  have x0 : w15.cell? ⟨q6, 0, none⟩ = some (.int .u64 3) := cell_of_block h14 rfl
  have x1 : w15.cell? ⟨q6, 1, none⟩ = some (.int .u64 2) := cell_of_block h14 rfl
  have x2 : w15.cell? ⟨q6, 2, none⟩ = some (.int .u64 4) := cell_of_block h14 rfl
  have x3 : w15.cell? ⟨q6, 3, none⟩ = some (.slice ra3 1 rc3) := cell_of_block h14 rfl
  refine (HT3.out _ hz14).mono ?_
  rintro e w16 ⟨rfl, hk16⟩
  have hz16 := (hz14.trans (hk16.mono hz14.size)).alloc (hz14.trans (hk16.mono hz14.size)).size (.cells #[.int .u64 0, .string ⟨#[]⟩, .slice none 0 0, .int .u64 0, .int .u64 0] 111)
  have hk16a := hk16.alloc hk16.size (.cells #[.int .u64 0, .string ⟨#[]⟩, .slice none 0 0, .int .u64 0, .int .u64 0] 111)
  have a0 : (w16.alloc (.cells #[.int .u64 0, .string ⟨#[]⟩, .slice none 0 0, .int .u64 0, .int .u64 0] 111)).cell? ⟨q6, 0, none⟩ = some (.int .u64 3) := keeper hk16a x0
  have a1 : (w16.alloc (.cells #[.int .u64 0, .string ⟨#[]⟩, .slice none 0 0, .int .u64 0, .int .u64 0] 111)).cell? ⟨q6, 1, none⟩ = some (.int .u64 2) := keeper hk16a x1
  have a2 : (w16.alloc (.cells #[.int .u64 0, .string ⟨#[]⟩, .slice none 0 0, .int .u64 0, .int .u64 0] 111)).cell? ⟨q6, 2, none⟩ = some (.int .u64 4) := keeper hk16a x2
  have a3 : (w16.alloc (.cells #[.int .u64 0, .string ⟨#[]⟩, .slice none 0 0, .int .u64 0, .int .u64 0] 111)).cell? ⟨q6, 3, none⟩ = some (.slice ra3 1 rc3) := keeper hk16a x3
  clear HT3
  go_wp2_with fail
  clear a0 a1 a2 a3
  refine (HT4.out _ hz16).mono ?_
  rintro e w17 ⟨rfl, hk17⟩
  have hz17 := (hz16.trans (hk17.mono hz16.size)).alloc (hz16.trans (hk17.mono hz16.size)).size (.cells #[.int .u64 0, .string ⟨#[]⟩, .slice none 0 0, .int .u64 0, .int .u64 0] 111)
  have hk17a := hk16a.trans ((hk17.alloc hk17.size (.cells #[.int .u64 0, .string ⟨#[]⟩, .slice none 0 0, .int .u64 0, .int .u64 0] 111)).mono hk16a.size)
  have a0 : (w17.alloc (.cells #[.int .u64 0, .string ⟨#[]⟩, .slice none 0 0, .int .u64 0, .int .u64 0] 111)).cell? ⟨q6, 0, none⟩ = some (.int .u64 3) := keeper hk17a x0
  have a1 : (w17.alloc (.cells #[.int .u64 0, .string ⟨#[]⟩, .slice none 0 0, .int .u64 0, .int .u64 0] 111)).cell? ⟨q6, 1, none⟩ = some (.int .u64 2) := keeper hk17a x1
  have a2 : (w17.alloc (.cells #[.int .u64 0, .string ⟨#[]⟩, .slice none 0 0, .int .u64 0, .int .u64 0] 111)).cell? ⟨q6, 2, none⟩ = some (.int .u64 4) := keeper hk17a x2
  have a3 : (w17.alloc (.cells #[.int .u64 0, .string ⟨#[]⟩, .slice none 0 0, .int .u64 0, .int .u64 0] 111)).cell? ⟨q6, 3, none⟩ = some (.slice ra3 1 rc3) := keeper hk17a x3
  clear HT4
  go_wp2_with fail
  clear a0 a1 a2 a3
  refine (HI1.out _ hz17).mono ?_
  rintro e w18 ⟨⟨ia1, ic1, rfl⟩, hk18⟩
  have hz18 := hz17.trans (hk18.mono hz17.size)
  have a0 : w18.cell? ⟨q5, 0, none⟩ = some (.int .u64 2) := keeper hz18 W15.b.four.1
  have a1 : w18.cell? ⟨q5, 1, none⟩ = some (.int .u64 1) := keeper hz18 W15.b.four.2.1
  have a2 : w18.cell? ⟨q5, 2, none⟩ = some (.int .u64 3) := keeper hz18 W15.b.four.2.2.1
  have a3 : w18.cell? ⟨q5, 3, none⟩ = some (.slice ra2 1 rc2) := keeper hz18 W15.b.four.2.2.2
  go_wp2_with fail
  clear a0 a1 a2 a3
  refine (HI2.out _ hz18).mono ?_
  rintro e w19 ⟨⟨ia2, ic2, rfl⟩, hk19⟩
  have hz19 := hz18.trans (hk19.mono hz18.size)
  go_wp2_with fail
  go_ret
  exact ⟨rfl, b0.trans ((W15.same hz19).d.below.mono b0.size)⟩

set_option maxHeartbeats 8000000 in
set_option maxRecDepth 100000 in
theorem own_false_false (w : World) : Calls Try.prog 14 #[.bool false, .bool false] w fun e w' => e = .returned (.bool true) ∧ Below w.heap.size w w' := by
  go_enter Try.func14, Try.ntmps14
  go_wp2_with fail
  refine (awake_eleven w).mono ?_
  rintro e w0 ⟨rfl, b0⟩
  go_wp2_with fail
  refine (new_ok 1 w0 (by decide) (by decide) (fun _ => 0) 1).mono ?_
  rintro e w1 ⟨rfl, l1, b1⟩
  go_wp2_with fail
  refine (bnew_at w1 (col (fun _ => 0) w0.heap.size 1) 2).mono ?_
  rintro e w2 ⟨rfl, k2, b2⟩
  have D2 : Desk w0 (col (col (fun _ => 0) w0.heap.size 1) w1.heap.size 2) w2 w0.heap.size w1.heap.size [] (.slice none 0 0) (.slice none 0 0) [] [] 0 :=
    ⟨(l1.recol (fun b hb => col_old hb)).same b2, k2, fun b hb => by rw [col_old (Nat.lt_of_lt_of_le hb b1.size), col_old hb], b1.trans (b2.mono b1.size)⟩
  clear l1 k2 b1 b2
  obtain ⟨pl, hpl⟩ : ∃ pl, pl = w0.heap.size := ⟨_, rfl⟩
  obtain ⟨p, hp⟩ : ∃ p, p = w1.heap.size := ⟨_, rfl⟩
  obtain ⟨c2, hc2⟩ : ∃ c2, c2 = col (col (fun _ => 0) w0.heap.size 1) w1.heap.size 2 := ⟨_, rfl⟩
  rw [← hc2] at D2
  rw [← hpl, ← hp] at D2
  rw [← hpl, ← hp]
  clear hc2 hpl hp
  go_wp2_with fail
  refine (desk_begin D2 (by decide)).mono ?_
  rintro e w3 ⟨rfl, D3, _⟩
  clear D2
  go_wp2_with fail
  refine (desk_begin D3 (by decide)).mono ?_
  rintro e w4 ⟨rfl, D4, _⟩
  clear D3
  obtain ⟨c4, D4⟩ : ∃ c4, Desk w0 c4 w4 pl p [1, 1] (.slice none 0 0) (.slice none 0 0) [] [] 0 := ⟨_, D4⟩
  go_wp2_with fail
  have e1 : Ytdohkjpapmkhjaa.take 1 [1, 1] 1 = ⟨1, 2, 3, [2]⟩ := rfl
  have e2 : Ytdohkjpapmkhjaa.take 1 [1, 1] 2 = ⟨2, 1, 3, [1]⟩ := rfl
  refine (desk_take D4 1).mono ?_
  rw [e1]
  rintro e w5 ⟨r1, rfl, O5, D5, _⟩
  clear D4 e1
  obtain ⟨ra1, rc1, hr1⟩ := ownsRow_slice O5.1.1
  subst hr1
  unfold Snp.val
  go_wp2_with fail
  refine (desk_take D5 2).mono ?_
  rw [e2]
  rintro e w6 ⟨r2, rfl, O6, D6, b6⟩
  have O56 := (O5.recol (c' := col (col c4 w4.heap.size 9) w5.heap.size 9) (fun b hb => col_old hb)).same b6
  clear D5 e2 O5 b6
  obtain ⟨ra2, rc2, hr2⟩ := ownsRow_slice O6.1.1
  subst hr2
  unfold Snp.val
  go_wp2_with fail
  obtain ⟨c6, hc6⟩ : ∃ c6, c6 = col (col c4 w4.heap.size 9) w5.heap.size 9 := ⟨_, rfl⟩
  rw [← hc6] at O6 D6 O56
  clear hc6
  have hal : Below w6.heap.size w6 ((w6.alloc (.cells #[.int .u64 1, .int .u64 2, .int .u64 3, .slice ra1 1 rc1] 66)).alloc (.cells #[.int .u64 2, .int .u64 1, .int .u64 3, .slice ra2 1 rc2] 66)) := ((Below.refl _ _).alloc (Nat.le_refl _) _).alloc (by simp) _
  have hA := block_alloc (heap_new1 w6 (.cells #[.int .u64 1, .int .u64 2, .int .u64 3, .slice ra1 1 rc1] 66)) (.cells #[.int .u64 2, .int .u64 1, .int .u64 3, .slice ra2 1 rc2] 66)
  have hB := heap_new2 w6 (.cells #[.int .u64 1, .int .u64 2, .int .u64 3, .slice ra1 1 rc1] 66) (.cells #[.int .u64 2, .int .u64 1, .int .u64 3, .slice ra2 1 rc2] 66)
  obtain ⟨w7, hw7⟩ : ∃ w7, w7 = ((w6.alloc (.cells #[.int .u64 1, .int .u64 2, .int .u64 3, .slice ra1 1 rc1] 66)).alloc (.cells #[.int .u64 2, .int .u64 1, .int .u64 3, .slice ra2 1 rc2] 66)) := ⟨_, rfl⟩
  obtain ⟨c7, hc7⟩ : ∃ c7, c7 = col c6 w6.heap.size 9 := ⟨_, rfl⟩
  rw [← hw7] at hal hA hB
  have D7 : Desk w0 c7 w7 pl p [1, 1] (.slice none 0 0) (.slice none 0 0) [] [] 0 := by rw [hc7]; exact (D6.recol (fun b hb => col_old hb)).same hal
  have O71 : Own9 c7 w7 (.slice ra1 1 rc1) [2] := by rw [hc7]; exact (O56.recol (fun b hb => col_old hb)).same hal
  have O72 : Own9 c7 w7 (.slice ra2 1 rc2) [1] := by rw [hc7]; exact (O6.recol (fun b hb => col_old hb)).same hal
  obtain ⟨q5, hq5⟩ : ∃ q5, q5 = w6.heap.size + 1 := ⟨_, rfl⟩
  obtain ⟨q4, hq4⟩ : ∃ q4, q4 = w6.heap.size := ⟨_, rfl⟩
  have hn4 : c7 q4 = 9 := by rw [hc7, hq4]; exact col_new (Nat.le_refl _)
  have hn5 : c7 q5 = 9 := by rw [hc7, hq5]; exact col_new (by omega)
  rw [← hq4] at hA
  rw [← hq5] at hB
  rw [← hw7, ← hq5, ← hq4]
  have W7 : Two w0 c7 w7 pl p [1, 1] (.slice none 0 0) (.slice none 0 0) [] [] 0 q4 ⟨1, 2, 3, [2]⟩ ra1 rc1 q5 ⟨2, 1, 3, [1]⟩ ra2 rc2 := ⟨D7, ⟨hA, hn4, O71⟩, ⟨hB, hn5, O72⟩⟩
  clear hw7 hc7 hq4 hq5 hA hB hal O6 D6 O56 D7 O71 O72 hn4 hn5
  have t1 : takenE 1 [1, 1] ⟨1, 2, 3, [2]⟩ nameT [] 0 = 0 := rfl
  have HCR := Lib.hid (show ∀ w', Below w7.heap.size w7 w' → ∀ g, ColsAt w' (.slice (some ⟨g, 0, none⟩) 1 1) → Calls Try.prog 48 #[.pointer (some ⟨p, 0, none⟩), .pointer (some ⟨pl, 0, none⟩), .agg #[.int .u64 1, .int .u64 2, .int .u64 3, .slice ra1 1 rc1], .string { data := #[116] }, .slice (some ⟨g, 0, none⟩) 1 1] w' fun r w'' => r = .returned (.tuple #[.int .u64 1, .int .i64 0]) ∧
      ∃ c' v' bt cv', Two w0 c' w'' pl p [1, 1] v' (.slice none 0 0) [(bt, ⟨1, nameT, 1, 0⟩, cv')] [] 1 q4 ⟨1, 2, 3, [2]⟩ ra1 rc1 q5 ⟨2, 1, 3, [1]⟩ ra2 rc2 from fun w' hb g hc =>
    two_create (W7.same hb) nameT (by decide) hc isName_t t1 (by decide) (by decide))
  clear t1
  obtain ⟨a0, a1, a2, a3⟩ := W7.a.four
  have a0 : w7.cell? ⟨q4, 0, none⟩ = some (.int .u64 1) := a0
  have a1 : w7.cell? ⟨q4, 1, none⟩ = some (.int .u64 2) := a1
  have a2 : w7.cell? ⟨q4, 2, none⟩ = some (.int .u64 3) := a2
  have a3 : w7.cell? ⟨q4, 3, none⟩ = some (.slice ra1 1 rc1) := a3
  have hC0 : Below w7.heap.size w7 w7.drew := below_drewN (n := 1)
  go_region_held3 (fun z => z.cell? ⟨q4, 0, none⟩ = some (.int .u64 1) ∧ z.cell? ⟨q4, 1, none⟩ = some (.int .u64 2) ∧ z.cell? ⟨q4, 2, none⟩ = some (.int .u64 3) ∧ z.cell? ⟨q4, 3, none⟩ = some (.slice ra1 1 rc1))
    (first | exact ⟨W8.a.four.1, W8.a.four.2.1, W8.a.four.2.2.1, W8.a.four.2.2.2⟩ | exact ⟨keeper hC1 a0, keeper hC1 a1, keeper hC1 a2, keeper hC1 a3⟩ | exact ⟨keeper hC0 a0, keeper hC0 a1, keeper hC0 a2, keeper hC0 a3⟩)
    (first
      | (have _h := hC1; go_at_call 48; (with_reducible refine (HCR.out _ hC1 _ hcx).mono ?_); rintro e w8 ⟨rfl, c8, v8, b8, cv8, W8⟩)
      | (go_at_call 49; (with_reducible refine (one_at _).mono ?_); rintro e wx ⟨gx, rfl, _, hcx, hkx⟩; have hC1 := hC0.trans (hkx.mono hC0.size)))
  clear hkx hC0 hC1 HCR a0 a1 a2 a3 W7 hcx
  have W9 := W8
  clear W8
  have hB0 : Below w8.heap.size w8 w8 := Below.refl _ _
  have HT1 : ∀ w', Below w8.heap.size w8 w' → Calls Try.prog 54 #[.pointer (some ⟨p, 0, none⟩), .pointer (some ⟨pl, 0, none⟩), .agg #[.int .u64 1, .int .u64 2, .int .u64 3, .slice ra1 1 rc1], .string { data := #[116] }] w' fun r w'' => (∃ g cap, r = .returned (.tuple #[.agg #[.int .u64 1, .string nameT, .slice (some ⟨g, 0, none⟩) 1 cap, .int .u64 1, .int .u64 0], .bool true])) ∧ Below w'.heap.size w' w'' := fun w' hb =>
    table_some (W9.d.b.same hb) (W9.d.l.same hb) (s := ⟨1, 2, 3, [2]⟩) (W9.a.run.1.same hb) nameT (t := (b8, ⟨1, nameT, 1, 0⟩, cv8)) (by rfl)
  have HT1 := Lib.hid HT1
  have HT2 : ∀ w', Below w8.heap.size w8 w' → Calls Try.prog 54 #[.pointer (some ⟨p, 0, none⟩), .pointer (some ⟨pl, 0, none⟩), .agg #[.int .u64 2, .int .u64 1, .int .u64 3, .slice ra2 1 rc2], .string { data := #[116] }] w' fun r w'' => r = .returned (.tuple #[.agg #[.int .u64 0, .string ⟨#[]⟩, .slice none 0 0, .int .u64 0, .int .u64 0], .bool false]) ∧ Below w'.heap.size w' w'' := fun w' hb =>
    table_none (W9.d.b.same hb) (W9.d.l.same hb) (s := ⟨2, 1, 3, [1]⟩) (W9.b.run.1.same hb) nameT (by rfl)
  have HT2 := Lib.hid HT2
  have a0 : w8.cell? ⟨q4, 0, none⟩ = some (.int .u64 1) := keeper hB0 W9.a.four.1
  have a1 : w8.cell? ⟨q4, 1, none⟩ = some (.int .u64 2) := keeper hB0 W9.a.four.2.1
  have a2 : w8.cell? ⟨q4, 2, none⟩ = some (.int .u64 3) := keeper hB0 W9.a.four.2.2.1
  have a3 : w8.cell? ⟨q4, 3, none⟩ = some (.slice ra1 1 rc1) := keeper hB0 W9.a.four.2.2.2
  go_wp2_with fail
  refine (HT1.out _ hB0).mono ?_
  rintro e w10 ⟨⟨g1, cap1, rfl⟩, hk10⟩
  have hB1 := (hB0.trans (hk10.mono hB0.size)).alloc (hB0.trans (hk10.mono hB0.size)).size (.cells #[.int .u64 1, .string nameT, .slice (some ⟨g1, 0, none⟩) 1 cap1, .int .u64 1, .int .u64 0] 111)
  clear a0 a1 a2 a3 HT1
  have a0 : (w10.alloc (.cells #[.int .u64 1, .string nameT, .slice (some ⟨g1, 0, none⟩) 1 cap1, .int .u64 1, .int .u64 0] 111)).cell? ⟨q5, 0, none⟩ = some (.int .u64 2) := keeper hB1 W9.b.four.1
  have a1 : (w10.alloc (.cells #[.int .u64 1, .string nameT, .slice (some ⟨g1, 0, none⟩) 1 cap1, .int .u64 1, .int .u64 0] 111)).cell? ⟨q5, 1, none⟩ = some (.int .u64 1) := keeper hB1 W9.b.four.2.1
  have a2 : (w10.alloc (.cells #[.int .u64 1, .string nameT, .slice (some ⟨g1, 0, none⟩) 1 cap1, .int .u64 1, .int .u64 0] 111)).cell? ⟨q5, 2, none⟩ = some (.int .u64 3) := keeper hB1 W9.b.four.2.2.1
  have a3 : (w10.alloc (.cells #[.int .u64 1, .string nameT, .slice (some ⟨g1, 0, none⟩) 1 cap1, .int .u64 1, .int .u64 0] 111)).cell? ⟨q5, 3, none⟩ = some (.slice ra2 1 rc2) := keeper hB1 W9.b.four.2.2.2
  go_wp2_with fail
  refine (HT2.out _ hB1).mono ?_
  rintro e w11 ⟨rfl, hk11⟩
  have hB2 := (hB1.trans (hk11.mono hB1.size)).alloc (hB1.trans (hk11.mono hB1.size)).size (.cells #[.int .u64 0, .string ⟨#[]⟩, .slice none 0 0, .int .u64 0, .int .u64 0] 111)
  have W12 := W9.same hB2
  clear a0 a1 a2 a3 HT2
  go_wp2_with fail
  refine (two_abort W12 1).mono ?_
  rintro e w12 ⟨rfl, W13⟩
  have W13 : Two w0 c8 w12 pl p [3, 1] v8 (.slice none 0 0) [(b8, ⟨1, nameT, 1, 0⟩, cv8)] [] 1 q4 ⟨1, 2, 3, [2]⟩ ra1 rc1 q5 ⟨2, 1, 3, [1]⟩ ra2 rc2 := W13
  clear W12
  go_wp2_with fail
  refine (two_begin W13 (by decide)).mono ?_
  rintro e w13 ⟨rfl, c13, W14⟩
  have W14 : Two w0 c13 w13 pl p [3, 1, 1] v8 (.slice none 0 0) [(b8, ⟨1, nameT, 1, 0⟩, cv8)] [] 1 q4 ⟨1, 2, 3, [2]⟩ ra1 rc1 q5 ⟨2, 1, 3, [1]⟩ ra2 rc2 := W14
  clear W13
  go_wp2_with fail
  have e3 : Ytdohkjpapmkhjaa.take 1 [3, 1, 1] 3 = ⟨3, 2, 4, [2]⟩ := rfl
  refine (desk_take W14.d 3).mono ?_
  rw [e3]
  rintro e w14 ⟨r3, rfl, O15, D15, hk14⟩
  have W15 := (W14.recol (c' := col c13 w13.heap.size 9) (fun b hb => col_old hb)).same hk14
  clear W14 e3 D15 hk14
  obtain ⟨ra3, rc3, hr3⟩ := ownsRow_slice O15.1.1
  subst hr3
  unfold Snp.val
  have hz14 : Below w14.heap.size w14 (w14.alloc (.cells #[.int .u64 3, .int .u64 2, .int .u64 4, .slice ra3 1 rc3] 66)) := below_alloc _ _
  have h14 := heap_new1 w14 (.cells #[.int .u64 3, .int .u64 2, .int .u64 4, .slice ra3 1 rc3] 66)
  have HT3 : ∀ w', Below w14.heap.size w14 w' → Calls Try.prog 54 #[.pointer (some ⟨p, 0, none⟩), .pointer (some ⟨pl, 0, none⟩), .agg #[.int .u64 2, .int .u64 1, .int .u64 3, .slice ra2 1 rc2], .string { data := #[116] }] w' fun r w'' => r = .returned (.tuple #[.agg #[.int .u64 0, .string ⟨#[]⟩, .slice none 0 0, .int .u64 0, .int .u64 0], .bool false]) ∧ Below w'.heap.size w' w'' := fun w' hb =>
    table_none (W15.d.b.same hb) (W15.d.l.same hb) (s := ⟨2, 1, 3, [1]⟩) (W15.b.run.1.same hb) nameT (by rfl)
  have HT3 := Lib.hid HT3
  have HT4 : ∀ w', Below w14.heap.size w14 w' → Calls Try.prog 54 #[.pointer (some ⟨p, 0, none⟩), .pointer (some ⟨pl, 0, none⟩), .agg #[.int .u64 3, .int .u64 2, .int .u64 4, .slice ra3 1 rc3], .string { data := #[116] }] w' fun r w'' => r = .returned (.tuple #[.agg #[.int .u64 0, .string ⟨#[]⟩, .slice none 0 0, .int .u64 0, .int .u64 0], .bool false]) ∧ Below w'.heap.size w' w'' := fun w' hb =>
    table_none (W15.d.b.same hb) (W15.d.l.same hb) (s := ⟨3, 2, 4, [2]⟩) (O15.1.same hb) nameT (by rfl)
  have HT4 := Lib.hid HT4
  have HI1 : ∀ w', Below w14.heap.size w14 w' → Calls Try.prog 55 #[.pointer (some ⟨p, 0, none⟩), .pointer (some ⟨pl, 0, none⟩), .agg #[.int .u64 3, .int .u64 2, .int .u64 4, .slice ra3 1 rc3], .int .u64 1] w' fun r w'' => (∃ a cap, r = .returned (.slice a 0 cap)) ∧ Below w'.heap.size w' w'' := fun w' hb =>
    (indexes_at (W15.d.b.same hb) (W15.d.l.same hb) (s := ⟨3, 2, 4, [2]⟩) (O15.1.same hb) 1).mono fun r w'' ⟨v, h1, h2, h3⟩ => by
      obtain ⟨a, cap, e⟩ := ownsRow_slice h2
      rw [e] at h1
      exact ⟨⟨a, cap, h1⟩, h3⟩
  have HI1 := Lib.hid HI1
  have HI2 : ∀ w', Below w14.heap.size w14 w' → Calls Try.prog 55 #[.pointer (some ⟨p, 0, none⟩), .pointer (some ⟨pl, 0, none⟩), .agg #[.int .u64 2, .int .u64 1, .int .u64 3, .slice ra2 1 rc2], .int .u64 1] w' fun r w'' => (∃ a cap, r = .returned (.slice a 0 cap)) ∧ Below w'.heap.size w' w'' := fun w' hb =>
    (indexes_at (W15.d.b.same hb) (W15.d.l.same hb) (s := ⟨2, 1, 3, [1]⟩) (W15.b.run.1.same hb) 1).mono fun r w'' ⟨v, h1, h2, h3⟩ => by
      obtain ⟨a, cap, e⟩ := ownsRow_slice h2
      rw [e] at h1
      exact ⟨⟨a, cap, h1⟩, h3⟩
  have HI2 := Lib.hid HI2
  have a0 : (w14.alloc (.cells #[.int .u64 3, .int .u64 2, .int .u64 4, .slice ra3 1 rc3] 66)).cell? ⟨q5, 0, none⟩ = some (.int .u64 2) := keeper hz14 W15.b.four.1
  have a1 : (w14.alloc (.cells #[.int .u64 3, .int .u64 2, .int .u64 4, .slice ra3 1 rc3] 66)).cell? ⟨q5, 1, none⟩ = some (.int .u64 1) := keeper hz14 W15.b.four.2.1
  have a2 : (w14.alloc (.cells #[.int .u64 3, .int .u64 2, .int .u64 4, .slice ra3 1 rc3] 66)).cell? ⟨q5, 2, none⟩ = some (.int .u64 3) := keeper hz14 W15.b.four.2.2.1
  have a3 : (w14.alloc (.cells #[.int .u64 3, .int .u64 2, .int .u64 4, .slice ra3 1 rc3] 66)).cell? ⟨q5, 3, none⟩ = some (.slice ra2 1 rc2) := keeper hz14 W15.b.four.2.2.2
  go_wp2_with fail
  clear a0 a1 a2 a3
  obtain ⟨w15, hw15⟩ : ∃ w15, w15 = w14.alloc (.cells #[.int .u64 3, .int .u64 2, .int .u64 4, .slice ra3 1 rc3] 66) := ⟨_, rfl⟩
  obtain ⟨q6, hq6⟩ : ∃ q6, q6 = w14.heap.size := ⟨_, rfl⟩
  rw [← hw15] at hz14 h14
  rw [← hq6] at h14
  rw [← hw15, ← hq6]
  clear hw15 hq6
  have x0 : w15.cell? ⟨q6, 0, none⟩ = some (.int .u64 3) := cell_of_block h14 rfl
  have x1 : w15.cell? ⟨q6, 1, none⟩ = some (.int .u64 2) := cell_of_block h14 rfl
  have x2 : w15.cell? ⟨q6, 2, none⟩ = some (.int .u64 4) := cell_of_block h14 rfl
  have x3 : w15.cell? ⟨q6, 3, none⟩ = some (.slice ra3 1 rc3) := cell_of_block h14 rfl
  refine (HT3.out _ hz14).mono ?_
  rintro e w16 ⟨rfl, hk16⟩
  have hz16 := (hz14.trans (hk16.mono hz14.size)).alloc (hz14.trans (hk16.mono hz14.size)).size (.cells #[.int .u64 0, .string ⟨#[]⟩, .slice none 0 0, .int .u64 0, .int .u64 0] 111)
  have hk16a := hk16.alloc hk16.size (.cells #[.int .u64 0, .string ⟨#[]⟩, .slice none 0 0, .int .u64 0, .int .u64 0] 111)
  have a0 : (w16.alloc (.cells #[.int .u64 0, .string ⟨#[]⟩, .slice none 0 0, .int .u64 0, .int .u64 0] 111)).cell? ⟨q6, 0, none⟩ = some (.int .u64 3) := keeper hk16a x0
  have a1 : (w16.alloc (.cells #[.int .u64 0, .string ⟨#[]⟩, .slice none 0 0, .int .u64 0, .int .u64 0] 111)).cell? ⟨q6, 1, none⟩ = some (.int .u64 2) := keeper hk16a x1
  have a2 : (w16.alloc (.cells #[.int .u64 0, .string ⟨#[]⟩, .slice none 0 0, .int .u64 0, .int .u64 0] 111)).cell? ⟨q6, 2, none⟩ = some (.int .u64 4) := keeper hk16a x2
  have a3 : (w16.alloc (.cells #[.int .u64 0, .string ⟨#[]⟩, .slice none 0 0, .int .u64 0, .int .u64 0] 111)).cell? ⟨q6, 3, none⟩ = some (.slice ra3 1 rc3) := keeper hk16a x3
  clear HT3
  go_wp2_with fail
  clear a0 a1 a2 a3
  refine (HT4.out _ hz16).mono ?_
  rintro e w17 ⟨rfl, hk17⟩
  have hz17 := (hz16.trans (hk17.mono hz16.size)).alloc (hz16.trans (hk17.mono hz16.size)).size (.cells #[.int .u64 0, .string ⟨#[]⟩, .slice none 0 0, .int .u64 0, .int .u64 0] 111)
  have hk17a := hk16a.trans ((hk17.alloc hk17.size (.cells #[.int .u64 0, .string ⟨#[]⟩, .slice none 0 0, .int .u64 0, .int .u64 0] 111)).mono hk16a.size)
  have a0 : (w17.alloc (.cells #[.int .u64 0, .string ⟨#[]⟩, .slice none 0 0, .int .u64 0, .int .u64 0] 111)).cell? ⟨q6, 0, none⟩ = some (.int .u64 3) := keeper hk17a x0
  have a1 : (w17.alloc (.cells #[.int .u64 0, .string ⟨#[]⟩, .slice none 0 0, .int .u64 0, .int .u64 0] 111)).cell? ⟨q6, 1, none⟩ = some (.int .u64 2) := keeper hk17a x1
  have a2 : (w17.alloc (.cells #[.int .u64 0, .string ⟨#[]⟩, .slice none 0 0, .int .u64 0, .int .u64 0] 111)).cell? ⟨q6, 2, none⟩ = some (.int .u64 4) := keeper hk17a x2
  have a3 : (w17.alloc (.cells #[.int .u64 0, .string ⟨#[]⟩, .slice none 0 0, .int .u64 0, .int .u64 0] 111)).cell? ⟨q6, 3, none⟩ = some (.slice ra3 1 rc3) := keeper hk17a x3
  clear HT4
  go_wp2_with fail
  clear a0 a1 a2 a3
  refine (HI1.out _ hz17).mono ?_
  rintro e w18 ⟨⟨ia1, ic1, rfl⟩, hk18⟩
  have hz18 := hz17.trans (hk18.mono hz17.size)
  have a0 : w18.cell? ⟨q5, 0, none⟩ = some (.int .u64 2) := keeper hz18 W15.b.four.1
  have a1 : w18.cell? ⟨q5, 1, none⟩ = some (.int .u64 1) := keeper hz18 W15.b.four.2.1
  have a2 : w18.cell? ⟨q5, 2, none⟩ = some (.int .u64 3) := keeper hz18 W15.b.four.2.2.1
  have a3 : w18.cell? ⟨q5, 3, none⟩ = some (.slice ra2 1 rc2) := keeper hz18 W15.b.four.2.2.2
  go_wp2_with fail
  clear a0 a1 a2 a3
  refine (HI2.out _ hz18).mono ?_
  rintro e w19 ⟨⟨ia2, ic2, rfl⟩, hk19⟩
  have hz19 := hz18.trans (hk19.mono hz18.size)
  go_wp2_with fail
  go_ret
  exact ⟨rfl, b0.trans ((W15.same hz19).d.below.mono b0.size)⟩
end Go.Proofs.Ytdohkjpapmkhjaa
