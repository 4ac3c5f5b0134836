/-
  cell.order, cell.Same, cell.Less: of any two values.
-/
import Derived.Test.YtifcdfilglbdgaaCell
namespace Go.Proofs.Ytifcdfilglbdgaa
open Go.RowKit

theorem as_i2 (x : Int) (w : World) : (Instr.typeAssert (.iface 2 (.int .i64 x)) 20 2 true).run Try.prog w = .ok (.tuple #[.int .i64 x, .bool true]) w := by kernel_rfl
theorem as_i (x : Int) (w : World) : (Instr.typeAssert (.iface 2 (.int .i64 x)) 20 2 false).run Try.prog w = .ok (.int .i64 x) w := by kernel_rfl
theorem as_i9 (x : Int) (w : World) : (Instr.typeAssert (.iface 2 (.int .i64 x)) 20 9 true).run Try.prog w = .ok (.tuple #[.string ⟨#[]⟩, .bool false]) w := by kernel_rfl
theorem as_i4 (x : Int) (w : World) : (Instr.typeAssert (.iface 2 (.int .i64 x)) 20 4 true).run Try.prog w = .ok (.tuple #[.bool false, .bool false]) w := by kernel_rfl
theorem as_s2 (x : ByteArray) (w : World) : (Instr.typeAssert (.iface 9 (.string x)) 20 2 true).run Try.prog w = .ok (.tuple #[.int .i64 0, .bool false]) w := by kernel_rfl
theorem as_s9 (x : ByteArray) (w : World) : (Instr.typeAssert (.iface 9 (.string x)) 20 9 true).run Try.prog w = .ok (.tuple #[.string x, .bool true]) w := by kernel_rfl
theorem as_s (x : ByteArray) (w : World) : (Instr.typeAssert (.iface 9 (.string x)) 20 9 false).run Try.prog w = .ok (.string x) w := by kernel_rfl
theorem as_s4 (x : ByteArray) (w : World) : (Instr.typeAssert (.iface 9 (.string x)) 20 4 true).run Try.prog w = .ok (.tuple #[.bool false, .bool false]) w := by kernel_rfl
theorem as_b2 (x : Bool) (w : World) : (Instr.typeAssert (.iface 4 (.bool x)) 20 2 true).run Try.prog w = .ok (.tuple #[.int .i64 0, .bool false]) w := by kernel_rfl
theorem as_b9 (x : Bool) (w : World) : (Instr.typeAssert (.iface 4 (.bool x)) 20 9 true).run Try.prog w = .ok (.tuple #[.string ⟨#[]⟩, .bool false]) w := by kernel_rfl
theorem as_b4 (x : Bool) (w : World) : (Instr.typeAssert (.iface 4 (.bool x)) 20 4 true).run Try.prog w = .ok (.tuple #[.bool x, .bool true]) w := by kernel_rfl
theorem as_b (x : Bool) (w : World) : (Instr.typeAssert (.iface 4 (.bool x)) 20 4 false).run Try.prog w = .ok (.bool x) w := by kernel_rfl
theorem as_n2  (w : World) : (Instr.typeAssert (.nilIface) 20 2 true).run Try.prog w = .ok (.tuple #[.int .i64 0, .bool false]) w := by kernel_rfl
theorem as_n9  (w : World) : (Instr.typeAssert (.nilIface) 20 9 true).run Try.prog w = .ok (.tuple #[.string ⟨#[]⟩, .bool false]) w := by kernel_rfl
theorem as_n4  (w : World) : (Instr.typeAssert (.nilIface) 20 4 true).run Try.prog w = .ok (.tuple #[.bool false, .bool false]) w := by kernel_rfl

theorem ret_int {k : IntKind} {a b : Int} (h : a = b) : Ending.returned (.int k a) = .returned (.int k b) := by rw [h]

set_option maxHeartbeats 1000000 in
set_option maxRecDepth 100000 in
/-- cell.order. -/
theorem order_at (a b : V) (w : World) : Calls Try.prog 37 #[a.val, b.val] w fun r w' => r = .returned (.int .i64 (cmpV a b)) ∧ Below w.heap.size w w' := by
  have hop : ∀ v : V, ∀ w, Calls Try.prog 43 #[v.val] w fun r w' => r = .returned (openV v) ∧ Below w.heap.size w w' := open_at
  obtain ⟨ak, ai, sa, ab⟩ := a
  obtain ⟨bk, bi, sb, bb⟩ := b
  have hoa := hop ⟨ak, ai, sa, ab⟩
  have hob := hop ⟨bk, bi, sb, bb⟩
  unfold V.val at hoa hob ⊢
  simp only at hoa hob ⊢
  have hR : cmpV ⟨ak, ai, sa, ab⟩ ⟨bk, bi, sb, bb⟩ = if cmpI (rankI ak) (rankI bk) ≠ 0 then cmpI (rankI ak) (rankI bk) else if ak = 1 then cmpI ai bi else if ak = 2 then cmpS sa sb else if ak = 3 then cmpI (bitI ab) (bitI bb) else 0 := rfl
  have hk : cmpI (rankI ak) (rankI bk) = 0 → (ak = 1 ↔ bk = 1) ∧ (ak = 2 ↔ bk = 2) ∧ (ak = 3 ↔ bk = 3) := fun h => by
    unfold cmpI rankI at h
    (repeat' split at h) <;> omega
  rw [hR]
  obtain ⟨R, hRR⟩ : ∃ R, R = if cmpI (rankI ak) (rankI bk) ≠ 0 then cmpI (rankI ak) (rankI bk) else if ak = 1 then cmpI ai bi else if ak = 2 then cmpS sa sb else if ak = 3 then cmpI (bitI ab) (bitI bb) else 0 := ⟨_, rfl⟩
  rw [← hRR]
  have HR := Lib.hid hRR
  clear hR hop hRR
  have HOA := Lib.hid hoa; have HOB := Lib.hid hob; have HK := Lib.hid hk
  clear hoa hob hk
  have hal : Below w.heap.size w ((w.alloc (.cells #[.int .u8 ak, .int .i64 ai, .string sa, .bool ab] 39)).alloc (.cells #[.int .u8 bk, .int .i64 bi, .string sb, .bool bb] 39)) := below_then (below_alloc _ _) (below_alloc _ _)
  have hA := block_alloc (heap_new1 w (.cells #[.int .u8 ak, .int .i64 ai, .string sa, .bool ab] 39)) (.cells #[.int .u8 bk, .int .i64 bi, .string sb, .bool bb] 39)
  have hB := heap_new2 w (.cells #[.int .u8 ak, .int .i64 ai, .string sa, .bool ab] 39) (.cells #[.int .u8 bk, .int .i64 bi, .string sb, .bool bb] 39)
  go_enter Try.func37, Try.ntmps37
  go_wp2_with fail
  obtain ⟨wz, hwz⟩ : ∃ wz, wz = ((w.alloc (.cells #[.int .u8 ak, .int .i64 ai, .string sa, .bool ab] 39)).alloc (.cells #[.int .u8 bk, .int .i64 bi, .string sb, .bool bb] 39)) := ⟨_, rfl⟩
  obtain ⟨q2, hq2⟩ : ∃ q2, q2 = w.heap.size + 1 := ⟨_, rfl⟩
  obtain ⟨q, hq⟩ : ∃ q, q = w.heap.size := ⟨_, rfl⟩
  rw [← hwz] at hal hA hB
  rw [← hq2] at hB
  rw [← hq] at hA
  rw [← hwz, ← hq2, ← hq]
  clear hwz hq2 hq
  have x0 : wz.cell? ⟨q, 0, none⟩ = some (.int .u8 ak) := cell_of_block hA rfl
  have x1 : wz.cell? ⟨q, 1, none⟩ = some (.int .i64 ai) := cell_of_block hA rfl
  have x2 : wz.cell? ⟨q, 2, none⟩ = some (.string sa) := cell_of_block hA rfl
  have x3 : wz.cell? ⟨q, 3, none⟩ = some (.bool ab) := cell_of_block hA rfl
  have y0 : wz.cell? ⟨q2, 0, none⟩ = some (.int .u8 bk) := cell_of_block hB rfl
  have y1 : wz.cell? ⟨q2, 1, none⟩ = some (.int .i64 bi) := cell_of_block hB rfl
  have y2 : wz.cell? ⟨q2, 2, none⟩ = some (.string sb) := cell_of_block hB rfl
  have y3 : wz.cell? ⟨q2, 3, none⟩ = some (.bool bb) := cell_of_block hB rfl
  go_quiet (first | (go_at_call 41; exact quiet_eq (cmp41 _ _ _)) | (go_at_call 42; exact quiet_eq (rank_at _ _)))
  clear hA hB
  obtain ⟨c, hc⟩ : ∃ c, c = cmpI (rankI ak) (rankI bk) := ⟨_, rfl⟩
  rw [← hc] at HK HR
  rw [← hc]
  have HC := Lib.hid hc; clear hc
  by_cases h0 : c = 0
  · have hb0 : (c != 0) = false := by rw [h0]; rfl
    have h0 := Lib.hid h0
    have HR := Lib.hid (HR.out.trans (if_neg (fun x => x h0.out)))
    by_cases h1 : ak = 1
    · have g1 := (HK.out h0.out).1.1 h1
      subst h1 g1
      have ha : ∀ w, Calls Try.prog 43 #[.agg #[.int .u8 1, .int .i64 ai, .string sa, .bool ab]] w fun r w' => r = .returned (.iface 2 (.int .i64 ai)) ∧ Below w.heap.size w w' := HOA.out
      have hb : ∀ w, Calls Try.prog 43 #[.agg #[.int .u8 1, .int .i64 bi, .string sb, .bool bb]] w fun r w' => r = .returned (.iface 2 (.int .i64 bi)) ∧ Below w.heap.size w w' := HOB.out
      have HA := Lib.hid ha; have HB := Lib.hid hb
      have t1 := as_i2 ai; have t2 := as_i bi
      clear ha hb HOA HOB
      have HV := Lib.hid (HR.out.trans (if_pos rfl))
      clear HR
      go_wp2_with fail
      refine (HA.out _).mono ?_
      rintro r w1 ⟨rfl, hk1⟩
      have hd0 : Below wz.heap.size wz (wz.drewN nq) := below_drewN
      have hz1 := below_then hd0 hk1
      have y0' := keeper hz1 y0
      have y1' := keeper hz1 y1
      have y2' := keeper hz1 y2
      have y3' := keeper hz1 y3
      clear x0 x1 x2 x3 y0 y1 y2 y3
      go_wp2_with fail
      refine (HB.out _).mono ?_
      rintro r w2 ⟨rfl, hk2⟩
      go_wp2_with fail
      refine (cmp44 _ _ _).mono ?_
      rintro r w3 ⟨rfl, rfl⟩
      go_wp2_with fail
      go_ret
      exact ⟨ret_int HV.out.symm, below_then hal (below_then hz1 hk2)⟩
    by_cases h2 : ak = 2
    · have g2 := (HK.out h0.out).2.1.1 h2
      subst h2 g2
      have ha : ∀ w, Calls Try.prog 43 #[.agg #[.int .u8 2, .int .i64 ai, .string sa, .bool ab]] w fun r w' => r = .returned (.iface 9 (.string sa)) ∧ Below w.heap.size w w' := HOA.out
      have hb : ∀ w, Calls Try.prog 43 #[.agg #[.int .u8 2, .int .i64 bi, .string sb, .bool bb]] w fun r w' => r = .returned (.iface 9 (.string sb)) ∧ Below w.heap.size w w' := HOB.out
      have HA := Lib.hid ha; have HB := Lib.hid hb
      have t1 := as_s2 sa; have t2 := as_s9 sa; have t3 := as_s sb
      clear ha hb HOA HOB
      have HV := Lib.hid (HR.out.trans ((if_neg (by decide)).trans (if_pos rfl)))
      clear HR
      go_wp2_with fail
      refine (HA.out _).mono ?_
      rintro r w1 ⟨rfl, hk1⟩
      have hd0 : Below wz.heap.size wz (wz.drewN nq) := below_drewN
      have hz1 := below_then hd0 hk1
      have y0' := keeper hz1 y0
      have y1' := keeper hz1 y1
      have y2' := keeper hz1 y2
      have y3' := keeper hz1 y3
      clear x0 x1 x2 x3 y0 y1 y2 y3
      go_wp2_with fail
      refine (HB.out _).mono ?_
      rintro r w2 ⟨rfl, hk2⟩
      go_wp2_with fail
      refine (cmp45 _ _ _).mono ?_
      rintro r w3 ⟨rfl, rfl⟩
      go_wp2_with fail
      go_ret
      exact ⟨ret_int HV.out.symm, below_then hal (below_then hz1 hk2)⟩
    by_cases h3 : ak = 3
    · have g3 := (HK.out h0.out).2.2.1 h3
      subst h3 g3
      have ha : ∀ w, Calls Try.prog 43 #[.agg #[.int .u8 3, .int .i64 ai, .string sa, .bool ab]] w fun r w' => r = .returned (.iface 4 (.bool ab)) ∧ Below w.heap.size w w' := HOA.out
      have hb : ∀ w, Calls Try.prog 43 #[.agg #[.int .u8 3, .int .i64 bi, .string sb, .bool bb]] w fun r w' => r = .returned (.iface 4 (.bool bb)) ∧ Below w.heap.size w w' := HOB.out
      have HA := Lib.hid ha; have HB := Lib.hid hb
      have t1 := as_b2 ab; have t2 := as_b9 ab; have t3 := as_b4 ab; have t4 := as_b bb
      clear ha hb HOA HOB
      have HV := Lib.hid (HR.out.trans ((if_neg (by decide)).trans ((if_neg (by decide)).trans (if_pos rfl))))
      clear HR
      go_wp2_with fail
      refine (HA.out _).mono ?_
      rintro r w1 ⟨rfl, hk1⟩
      have hd0 : Below wz.heap.size wz (wz.drewN nq) := below_drewN
      have hz1 := below_then hd0 hk1
      have y0' := keeper hz1 y0
      have y1' := keeper hz1 y1
      have y2' := keeper hz1 y2
      have y3' := keeper hz1 y3
      clear x0 x1 x2 x3 y0 y1 y2 y3
      go_wp2_with fail
      have hd1 : Below w1.heap.size w1 w1.drew := below_drewN (n := 1)
      have hbb := HB.out
      have HBB := Lib.hid (fun w' (_ : Below w1.heap.size w1 w') => hbb w')
      clear hbb
      go_region_held3 (fun z => z.cell? ⟨q2, 0, none⟩ = some (.int .u8 3) ∧ z.cell? ⟨q2, 1, none⟩ = some (.int .i64 bi) ∧ z.cell? ⟨q2, 2, none⟩ = some (.string sb) ∧ z.cell? ⟨q2, 3, none⟩ = some (.bool bb))
        (first | (with_reducible exact ⟨keeper hd2 y0', keeper hd2 y1', keeper hd2 y2', keeper hd2 y3'⟩) | (with_reducible exact ⟨keeper hd1 y0', keeper hd1 y1', keeper hd1 y2', keeper hd1 y3'⟩))
        (first | (go_at_call 46; (with_reducible refine (bit_at _ _).mono ?_); rintro r wy ⟨rfl, rfl⟩) | (go_at_call 41; (with_reducible refine (cmp41 _ _ _).mono ?_); rintro r wy ⟨rfl, rfl⟩) | (go_at_call 43; (with_reducible refine (HBB.out _ hd1).mono ?_); rintro r w2 ⟨rfl, hk2⟩; have hd2 := below_then hd1 hk2))
      all_goals
        go_wp2_with fail
        go_ret
        exact ⟨ret_int HV.out.symm, below_then hal (below_then hz1 hd2)⟩
    have t1 := as_n2; have t2 := as_n9; have t3 := as_n4
    have hn : openV ⟨ak, ai, sa, ab⟩ = .nilIface := by unfold openV; rw [if_neg h1, if_neg h2, if_neg h3]
    rw [hn] at HOA
    have HV := Lib.hid (HR.out.trans ((if_neg h1).trans ((if_neg h2).trans (if_neg h3))))
    clear HR h1 h2 h3 hn
    go_wp2_with fail
    refine (HOA.out _).mono ?_
    rintro r w1 ⟨rfl, hk1⟩
    go_wp2_with fail
    go_ret
    exact ⟨ret_int HV.out.symm, below_then hal (below_then below_drewN hk1)⟩
  · have hb0 : (c != 0) = true := by rw [bne_iff_ne]; exact h0
    have HV := Lib.hid (HR.out.trans (if_pos h0))
    clear HR
    clear h0
    go_wp2_with fail
    go_ret
    exact ⟨ret_int HV.out.symm, hal.trans below_drewN⟩

set_option maxRecDepth 100000 in
/-- cell.Same. -/
theorem same_at (a b : V) (w : World) : Calls Try.prog 30 #[a.val, b.val] w fun r w' => r = .returned (.bool (sameV a b)) ∧ Below w.heap.size w w' := by
  have hord := fun w => order_at a b w
  rw [sameV_iff a b]
  obtain ⟨R, hR⟩ : ∃ R, R = cmpV a b := ⟨_, rfl⟩
  rw [← hR] at hord ⊢
  clear hR
  obtain ⟨ak, ai, sa, ab⟩ := a
  obtain ⟨bk, bi, sb, bb⟩ := b
  unfold V.val at hord ⊢
  simp only at hord ⊢
  have HO := Lib.hid hord
  clear hord
  have hal : Below w.heap.size w ((w.alloc (.cells #[.int .u8 ak, .int .i64 ai, .string sa, .bool ab] 39)).alloc (.cells #[.int .u8 bk, .int .i64 bi, .string sb, .bool bb] 39)) := below_then (below_alloc _ _) (below_alloc _ _)
  go_enter Try.func30, Try.ntmps30
  go_wp2_with fail
  refine (HO.out _).mono ?_
  rintro r w1 ⟨rfl, hk1⟩
  go_wp2_with fail
  go_ret
  exact ⟨rfl, below_then hal hk1⟩

set_option maxRecDepth 100000 in
/-- cell.Less. -/
theorem less_at (a b : V) (w : World) : Calls Try.prog 31 #[a.val, b.val] w fun r w' => r = .returned (.bool (ltV a b)) ∧ Below w.heap.size w w' := by
  have hord := fun w => order_at a b w
  rw [ltV_iff a b]
  obtain ⟨R, hR⟩ : ∃ R, R = cmpV a b := ⟨_, rfl⟩
  rw [← hR] at hord ⊢
  clear hR
  obtain ⟨ak, ai, sa, ab⟩ := a
  obtain ⟨bk, bi, sb, bb⟩ := b
  unfold V.val at hord ⊢
  simp only at hord ⊢
  have HO := Lib.hid hord
  clear hord
  have hal : Below w.heap.size w ((w.alloc (.cells #[.int .u8 ak, .int .i64 ai, .string sa, .bool ab] 39)).alloc (.cells #[.int .u8 bk, .int .i64 bi, .string sb, .bool bb] 39)) := below_then (below_alloc _ _) (below_alloc _ _)
  go_enter Try.func31, Try.ntmps31
  go_wp2_with fail
  refine (HO.out _).mono ?_
  rintro r w1 ⟨rfl, hk1⟩
  go_wp2_with fail
  go_ret
  exact ⟨rfl, below_then hal hk1⟩
end Go.Proofs.Ytifcdfilglbdgaa
