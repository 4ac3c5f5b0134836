/-
  THE DOCUMENT'S VALUES (lapidaryref02): place, Less, Same: of any two values they say what cell says.
-/
import Derived.Test.YtifcdfilglbdgaaOrder
namespace Go.Proofs.Ytifcdfilglbdgaa
open Go.RowKit

def placeI (k : Int) (b : Bool) : Int := if k = 3 then (if b = true then 2 else 1) else if k = 1 then 3 else if k = 2 then 4 else 0
def refLess (a b : V) : Bool := if placeI a.k a.b = placeI b.k b.b then (decide (a.k = 1) && decide (a.i < b.i)) || (decide (a.k = 2) && Op.bytesLess a.s.toList b.s.toList) else decide (placeI a.k a.b < placeI b.k b.b)
theorem refLess_eq (a b : V) : refLess a b = ltV a b := by
  obtain ⟨ak, ai, sa, ab⟩ := a
  obtain ⟨bk, bi, sb, bb⟩ := b
  unfold refLess ltV ltK keyV placeI rankI bitI
  simp only
  by_cases a3 : ak = 3
  · subst a3
    by_cases b3 : bk = 3
    · subst b3
      cases ab <;> cases bb <;> simp [bytesLess_irrefl]
    by_cases b1 : bk = 1
    · subst b1; cases ab <;> simp
    by_cases b2 : bk = 2
    · subst b2; cases ab <;> simp
    cases ab <;> simp [b1, b2, b3]
  by_cases a1 : ak = 1
  · subst a1
    by_cases b3 : bk = 3
    · subst b3
      cases bb <;> simp
    by_cases b1 : bk = 1
    · subst b1; simp [bytesLess_irrefl]
    by_cases b2 : bk = 2
    · subst b2; simp
    simp [b1, b2, b3]
  by_cases a2 : ak = 2
  · subst a2
    by_cases b3 : bk = 3
    · subst b3
      cases bb <;> simp
    by_cases b1 : bk = 1
    · subst b1; simp
    by_cases b2 : bk = 2
    · subst b2; simp
    simp [b1, b2, b3]
  by_cases b3 : bk = 3
  · subst b3
    cases bb <;> simp [a1, a2, a3]
  by_cases b1 : bk = 1
  · subst b1; simp [a1, a2, a3]
  by_cases b2 : bk = 2
  · subst b2; simp [a1, a2, a3]
  simp [a1, a2, a3, b1, b2, b3, bytesLess_irrefl]
theorem sameV_less (a b : V) : sameV a b = (!ltV a b && !ltV b a) := by
  unfold sameV ltV
  by_cases e : keyV a = keyV b
  · rw [e, ltK_irrefl]; simp
  · cases h : ltK (keyV a) (keyV b) with
    | true => simp [e]
    | false =>
      cases h2 : ltK (keyV b) (keyV a) with
      | true => simp [e]
      | false => exact absurd (ltK_total h h2) e

theorem ret_bool {a b : Bool} (h : a = b) : Ending.returned (.bool a) = .returned (.bool b) := by rw [h]
/-- lapidaryref02.place. -/
theorem place_any (k i : Int) (s : ByteArray) (b : Bool) (w : World) : Calls Try.prog 38 #[.agg #[.int .u8 k, .int .i64 i, .string s, .bool b]] w fun r w' => r = .returned (.int .i64 (placeI k b)) ∧ Below w.heap.size w w' := by
  obtain ⟨R, hR⟩ : ∃ R, R = placeI k b := ⟨_, rfl⟩
  rw [← hR]
  unfold placeI at hR
  by_cases h3 : k = 3
  · subst h3
    rw [if_pos rfl] at hR
    cases b with
    | true =>
      obtain rfl : R = 2 := hR
      go_enter Try.func38, Try.ntmps38
      go_wp2
      go_ret
      exact ⟨rfl, below_alloc _ _⟩
    | false =>
      obtain rfl : R = 1 := hR
      go_enter Try.func38, Try.ntmps38
      go_wp2
      go_ret
      exact ⟨rfl, below_alloc _ _⟩
  have e3 : (k == 3) = false := by rw [beq_eq_false_iff_ne]; exact h3
  rw [if_neg h3] at hR
  by_cases h1 : k = 1
  · subst h1
    obtain rfl : R = 3 := hR
    go_enter Try.func38, Try.ntmps38
    go_wp2
    go_ret
    exact ⟨rfl, below_alloc _ _⟩
  have e1 : (k == 1) = false := by rw [beq_eq_false_iff_ne]; exact h1
  rw [if_neg h1] at hR
  by_cases h2 : k = 2
  · subst h2
    obtain rfl : R = 4 := hR
    go_enter Try.func38, Try.ntmps38
    go_wp2
    go_ret
    exact ⟨rfl, below_alloc _ _⟩
  have e2 : (k == 2) = false := by rw [beq_eq_false_iff_ne]; exact h2
  rw [if_neg h2] at hR
  subst hR
  clear h1 h2 h3
  go_enter Try.func38, Try.ntmps38
  go_wp2
  go_ret
  exact ⟨rfl, below_alloc _ _⟩

set_option maxHeartbeats 1000000 in
set_option maxRecDepth 100000 in
/-- lapidaryref02.Less. -/
theorem rless_any (ak ai : Int) (sa : ByteArray) (ab : Bool) (bk bi : Int) (sb : ByteArray) (bb : Bool) (w : World) :
    Calls Try.prog 33 #[.agg #[.int .u8 ak, .int .i64 ai, .string sa, .bool ab], .agg #[.int .u8 bk, .int .i64 bi, .string sb, .bool bb]] w fun r w' => r = .returned (.bool (ltV ⟨ak, ai, sa, ab⟩ ⟨bk, bi, sb, bb⟩)) ∧ Below w.heap.size w w' := by
  obtain ⟨R, hR⟩ : ∃ R, R = ltV ⟨ak, ai, sa, ab⟩ ⟨bk, bi, sb, bb⟩ := ⟨_, rfl⟩
  rw [← hR]
  rw [← refLess_eq] at hR
  unfold refLess at hR
  simp only at hR
  have HR := Lib.hid hR
  clear hR
  have hal : Below w.heap.size w ((w.alloc (.cells #[.int .u8 ak, .int .i64 ai, .string sa, .bool ab] 39)).alloc (.cells #[.int .u8 bk, .int .i64 bi, .string sb, .bool bb] 39)) := below_then (below_alloc _ _) (below_alloc _ _)
  have hA := block_alloc (heap_new1 w (.cells #[.int .u8 ak, .int .i64 ai, .string sa, .bool ab] 39)) (.cells #[.int .u8 bk, .int .i64 bi, .string sb, .bool bb] 39)
  have hB := heap_new2 w (.cells #[.int .u8 ak, .int .i64 ai, .string sa, .bool ab] 39) (.cells #[.int .u8 bk, .int .i64 bi, .string sb, .bool bb] 39)
  go_enter Try.func33, Try.ntmps33
  go_wp2_with fail
  obtain ⟨wz, hwz⟩ : ∃ wz, wz = ((w.alloc (.cells #[.int .u8 ak, .int .i64 ai, .string sa, .bool ab] 39)).alloc (.cells #[.int .u8 bk, .int .i64 bi, .string sb, .bool bb] 39)) := ⟨_, rfl⟩
  obtain ⟨q2, hq2⟩ : ∃ q2, q2 = w.heap.size + 1 := ⟨_, rfl⟩
  obtain ⟨q, hq⟩ : ∃ q, q = w.heap.size := ⟨_, rfl⟩
  rw [← hwz] at hal hA hB
  rw [← hq2] at hB
  rw [← hq] at hA
  rw [← hwz, ← hq2, ← hq]
  clear hwz hq2 hq
  have x0 : wz.cell? ⟨q, 0, none⟩ = some (.int .u8 ak) := cell_of_block hA rfl
  have x1 : wz.cell? ⟨q, 1, none⟩ = some (.int .i64 ai) := cell_of_block hA rfl
  have x2 : wz.cell? ⟨q, 2, none⟩ = some (.string sa) := cell_of_block hA rfl
  have x3 : wz.cell? ⟨q, 3, none⟩ = some (.bool ab) := cell_of_block hA rfl
  have y0 : wz.cell? ⟨q2, 0, none⟩ = some (.int .u8 bk) := cell_of_block hB rfl
  have y1 : wz.cell? ⟨q2, 1, none⟩ = some (.int .i64 bi) := cell_of_block hB rfl
  have y2 : wz.cell? ⟨q2, 2, none⟩ = some (.string sb) := cell_of_block hB rfl
  have y3 : wz.cell? ⟨q2, 3, none⟩ = some (.bool bb) := cell_of_block hB rfl
  clear hA hB
  have hd0 : Below wz.heap.size wz wz.drew := below_drewN (n := 1)
  go_region_held3 (fun z => z.cell? ⟨q, 0, none⟩ = some (.int .u8 ak) ∧ z.cell? ⟨q, 1, none⟩ = some (.int .i64 ai) ∧ z.cell? ⟨q, 2, none⟩ = some (.string sa) ∧ z.cell? ⟨q, 3, none⟩ = some (.bool ab) ∧ z.cell? ⟨q2, 0, none⟩ = some (.int .u8 bk) ∧ z.cell? ⟨q2, 1, none⟩ = some (.int .i64 bi) ∧ z.cell? ⟨q2, 2, none⟩ = some (.string sb) ∧ z.cell? ⟨q2, 3, none⟩ = some (.bool bb))
    (first | (with_reducible exact ⟨keeper hd2 x0, keeper hd2 x1, keeper hd2 x2, keeper hd2 x3, keeper hd2 y0, keeper hd2 y1, keeper hd2 y2, keeper hd2 y3⟩) | (with_reducible exact ⟨keeper hd1 x0, keeper hd1 x1, keeper hd1 x2, keeper hd1 x3, keeper hd1 y0, keeper hd1 y1, keeper hd1 y2, keeper hd1 y3⟩) | (with_reducible exact ⟨keeper hd0 x0, keeper hd0 x1, keeper hd0 x2, keeper hd0 x3, keeper hd0 y0, keeper hd0 y1, keeper hd0 y2, keeper hd0 y3⟩))
    (first | (go_at_call 38; have _h := hd1; (with_reducible refine (place_any _ _ _ _ _).mono ?_); rintro r w2 ⟨rfl, hk2⟩; have hd2 := below_then hd1 hk2) | (go_at_call 38; (with_reducible refine (place_any _ _ _ _ _).mono ?_); rintro r w1 ⟨rfl, hk1⟩; have hd1 := below_then hd0 hk1))
  obtain ⟨pa, hpa⟩ : ∃ z, z = placeI ak ab := ⟨_, rfl⟩
  obtain ⟨pb, hpb⟩ : ∃ z, z = placeI bk bb := ⟨_, rfl⟩
  rw [← hpa, ← hpb] at HR
  rw [← hpa, ← hpb]
  have HPA := Lib.hid hpa; have HPB := Lib.hid hpb
  clear hpa hpb
  have x0' := keeper hd2 x0
  have x1' := keeper hd2 x1
  have x2' := keeper hd2 x2
  have x3' := keeper hd2 x3
  have y0' := keeper hd2 y0
  have y1' := keeper hd2 y1
  have y2' := keeper hd2 y2
  have y3' := keeper hd2 y3
  by_cases hp : pa = pb
  · have hb0 : (pa != pb) = false := by rw [hp]; simp
    have HR2 := Lib.hid (HR.out.trans (if_pos hp))
    have HP := Lib.hid hp
    clear hp HR
    by_cases h1 : ak = 1
    · subst h1
      by_cases hlt : ai < bi
      · have hv : R = true := by rw [HR2.out]; simp [hlt]
        have HV := Lib.hid hv
        clear hv
        go_wp2_with fail
        go_ret
        exact ⟨ret_bool HV.out.symm, below_then hal hd2⟩
      · have hv : R = false := by rw [HR2.out]; simp [hlt]
        have HV := Lib.hid hv
        clear hv
        go_wp2_with fail
        go_ret
        exact ⟨ret_bool HV.out.symm, below_then hal hd2⟩
    have e1 : (ak == 1) = false := by rw [beq_eq_false_iff_ne]; exact h1
    by_cases h2 : ak = 2
    · subst h2
      have hv : R = Op.bytesLess sa.toList sb.toList := by rw [HR2.out]; simp
      have HV := Lib.hid hv
      clear hv
      go_wp2_with fail
      go_ret
      exact ⟨ret_bool HV.out.symm, below_then hal hd2⟩
    have e2 : (ak == 2) = false := by rw [beq_eq_false_iff_ne]; exact h2
    have hv : R = false := by rw [HR2.out]; simp [h1, h2]
    have HV := Lib.hid hv
    clear hv h1 h2
    go_wp2_with fail
    go_ret
    exact ⟨ret_bool HV.out.symm, below_then hal hd2⟩
  · have hb0 : (pa != pb) = true := by rw [bne_iff_ne]; exact hp
    have HR2 := Lib.hid (HR.out.trans (if_neg hp))
    clear hp HR x0 x1 x2 x3 y0 y1 y2 y3
    go_wp2_with fail
    have he0 : Below w2.heap.size w2 w2.drew := below_drewN (n := 1)
    go_region_held3 (fun z => z.cell? ⟨q, 0, none⟩ = some (.int .u8 ak) ∧ z.cell? ⟨q, 1, none⟩ = some (.int .i64 ai) ∧ z.cell? ⟨q, 2, none⟩ = some (.string sa) ∧ z.cell? ⟨q, 3, none⟩ = some (.bool ab) ∧ z.cell? ⟨q2, 0, none⟩ = some (.int .u8 bk) ∧ z.cell? ⟨q2, 1, none⟩ = some (.int .i64 bi) ∧ z.cell? ⟨q2, 2, none⟩ = some (.string sb) ∧ z.cell? ⟨q2, 3, none⟩ = some (.bool bb))
      (first | (with_reducible exact ⟨keeper he2 x0', keeper he2 x1', keeper he2 x2', keeper he2 x3', keeper he2 y0', keeper he2 y1', keeper he2 y2', keeper he2 y3'⟩) | (with_reducible exact ⟨keeper he1 x0', keeper he1 x1', keeper he1 x2', keeper he1 x3', keeper he1 y0', keeper he1 y1', keeper he1 y2', keeper he1 y3'⟩) | (with_reducible exact ⟨keeper he0 x0', keeper he0 x1', keeper he0 x2', keeper he0 x3', keeper he0 y0', keeper he0 y1', keeper he0 y2', keeper he0 y3'⟩))
      (first | (go_at_call 38; have _h := he1; (with_reducible refine (place_any _ _ _ _ _).mono ?_); rintro r w4 ⟨rfl, hk4⟩; have he2 := below_then he1 hk4) | (go_at_call 38; (with_reducible refine (place_any _ _ _ _ _).mono ?_); rintro r w3 ⟨rfl, hk3⟩; have he1 := below_then he0 hk3))
    rw [← HPA.out, ← HPB.out]
    go_wp2_with fail
    go_ret
    exact ⟨ret_bool HR2.out.symm, below_then hal (below_then hd2 he2)⟩

set_option maxRecDepth 100000 in
/-- lapidaryref02.Same. -/
theorem rsame_any (ak ai : Int) (sa : ByteArray) (ab : Bool) (bk bi : Int) (sb : ByteArray) (bb : Bool) (w : World) :
    Calls Try.prog 32 #[.agg #[.int .u8 ak, .int .i64 ai, .string sa, .bool ab], .agg #[.int .u8 bk, .int .i64 bi, .string sb, .bool bb]] w fun r w' => r = .returned (.bool (sameV ⟨ak, ai, sa, ab⟩ ⟨bk, bi, sb, bb⟩)) ∧ Below w.heap.size w w' := by
  have h1 := fun w => rless_any ak ai sa ab bk bi sb bb w
  have h2 := fun w => rless_any bk bi sb bb ak ai sa ab w
  rw [sameV_less]
  obtain ⟨x, hx⟩ : ∃ z, z = ltV ⟨ak, ai, sa, ab⟩ ⟨bk, bi, sb, bb⟩ := ⟨_, rfl⟩
  obtain ⟨y, hy⟩ : ∃ z, z = ltV ⟨bk, bi, sb, bb⟩ ⟨ak, ai, sa, ab⟩ := ⟨_, rfl⟩
  rw [← hx] at h1 ⊢
  rw [← hy] at h2 ⊢
  clear hx hy
  have H1 := Lib.hid h1; have H2 := Lib.hid h2
  clear h1 h2
  have hal : Below w.heap.size w ((w.alloc (.cells #[.int .u8 ak, .int .i64 ai, .string sa, .bool ab] 39)).alloc (.cells #[.int .u8 bk, .int .i64 bi, .string sb, .bool bb] 39)) := below_then (below_alloc _ _) (below_alloc _ _)
  have hA := block_alloc (heap_new1 w (.cells #[.int .u8 ak, .int .i64 ai, .string sa, .bool ab] 39)) (.cells #[.int .u8 bk, .int .i64 bi, .string sb, .bool bb] 39)
  have hB := heap_new2 w (.cells #[.int .u8 ak, .int .i64 ai, .string sa, .bool ab] 39) (.cells #[.int .u8 bk, .int .i64 bi, .string sb, .bool bb] 39)
  go_enter Try.func32, Try.ntmps32
  go_wp2_with fail
  refine (H1.out _).mono ?_
  rintro r w1 ⟨rfl, hk1⟩
  have x0 : w1.cell? ⟨w.heap.size, 0, none⟩ = some (.int .u8 ak) := keeper hk1 (cell_of_block hA rfl)
  have x1 : w1.cell? ⟨w.heap.size, 1, none⟩ = some (.int .i64 ai) := keeper hk1 (cell_of_block hA rfl)
  have x2 : w1.cell? ⟨w.heap.size, 2, none⟩ = some (.string sa) := keeper hk1 (cell_of_block hA rfl)
  have x3 : w1.cell? ⟨w.heap.size, 3, none⟩ = some (.bool ab) := keeper hk1 (cell_of_block hA rfl)
  have y0 : w1.cell? ⟨w.heap.size + 1, 0, none⟩ = some (.int .u8 bk) := keeper hk1 (cell_of_block hB rfl)
  have y1 : w1.cell? ⟨w.heap.size + 1, 1, none⟩ = some (.int .i64 bi) := keeper hk1 (cell_of_block hB rfl)
  have y2 : w1.cell? ⟨w.heap.size + 1, 2, none⟩ = some (.string sb) := keeper hk1 (cell_of_block hB rfl)
  have y3 : w1.cell? ⟨w.heap.size + 1, 3, none⟩ = some (.bool bb) := keeper hk1 (cell_of_block hB rfl)
  have hB1 := below_then hal hk1
  clear hA hB
  cases x with
  | true =>
    go_wp2_with fail
    go_ret
    exact ⟨rfl, hB1⟩
  | false =>
    go_wp2_with fail
    refine (H2.out _).mono ?_
    rintro r w2 ⟨rfl, hk2⟩
    go_wp2_with fail
    go_ret
    exact ⟨rfl, below_then hB1 hk2⟩
end Go.Proofs.Ytifcdfilglbdgaa
