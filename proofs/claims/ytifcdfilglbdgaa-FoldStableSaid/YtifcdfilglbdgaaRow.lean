/-
  KEYS (slices of values) IN MEMORY, AND THEIR ORDER, plainly.
-/
import Derived.Test.YtifcdfilglbdgaaRefc
namespace Go.Proofs.Ytifcdfilglbdgaa
open Go.RowKit

/-- rv is a slice of the values r. -/
def RowAt (w : World) (rv : Value) (r : List V) : Prop := ∃ a cap, rv = .slice a r.length cap ∧ r.length ≤ 1000 ∧ ∀ i (h : i < r.length), ∃ b off, a = some ⟨b, off, none⟩ ∧
  w.cell? ⟨b, off + i * 4, none⟩ = some (.int .u8 r[i].k) ∧ w.cell? ⟨b, off + i * 4 + 1, none⟩ = some (.int .i64 r[i].i) ∧ w.cell? ⟨b, off + i * 4 + 2, none⟩ = some (.string r[i].s) ∧ w.cell? ⟨b, off + i * 4 + 3, none⟩ = some (.bool r[i].b)
/-- kv is a slice of keys. -/
def KeysAt (w : World) (kv : Value) (R : List (List V)) : Prop := ∃ a cap, kv = .slice a R.length cap ∧ R.length ≤ 1000 ∧ ∀ i (h : i < R.length), ∃ b off rv, a = some ⟨b, off, none⟩ ∧
  w.cell? ⟨b, off + i, none⟩ = some rv ∧ RowAt w rv R[i]
/-- dv is a slice of bools. -/
def DescAt (w : World) (dv : Value) (d : List Bool) : Prop := ∃ a cap, dv = .slice a d.length cap ∧ d.length ≤ 9223372036854775807 ∧ ∀ i (h : i < d.length), ∃ b off, a = some ⟨b, off, none⟩ ∧ w.cell? ⟨b, off + i, none⟩ = some (.bool d[i])
section
variable {w w' : World} {rv kv dv : Value} {r : List V} {R : List (List V)} {d : List Bool}
theorem RowAt.same (h : RowAt w rv r) (u : Below w.heap.size w w') : RowAt w' rv r := by
  obtain ⟨a, cap, h1, h2, h3⟩ := h
  refine ⟨a, cap, h1, h2, fun i hi => ?_⟩
  obtain ⟨b, off, e, c0, c1, c2, c3⟩ := h3 i hi
  exact ⟨b, off, e, keeper u c0, keeper u c1, keeper u c2, keeper u c3⟩
theorem KeysAt.same (h : KeysAt w kv R) (u : Below w.heap.size w w') : KeysAt w' kv R := by
  obtain ⟨a, cap, h1, h2, h3⟩ := h
  refine ⟨a, cap, h1, h2, fun i hi => ?_⟩
  obtain ⟨b, off, rv, e, c0, c1⟩ := h3 i hi
  exact ⟨b, off, rv, e, keeper u c0, c1.same u⟩
theorem DescAt.same (h : DescAt w dv d) (u : Below w.heap.size w w') : DescAt w' dv d := by
  obtain ⟨a, cap, h1, h2, h3⟩ := h
  refine ⟨a, cap, h1, h2, fun i hi => ?_⟩
  obtain ⟨b, off, e, c0⟩ := h3 i hi
  exact ⟨b, off, e, keeper u c0⟩
theorem DescAt.nil (w : World) : DescAt w (.slice none 0 0) [] := ⟨none, 0, rfl, by decide, fun i hi => by cases hi⟩
end

/-! ### the order of keys -/
def lessR : List K → List K → List Bool → Bool
  | x :: a, y :: b, d => if x = y then lessR a b d.tail else (ltK x y != d.headD false)
  | _, _, _ => false
def keyR (r : List V) : List K := r.map keyV
theorem lessR_drop (a b : List V) (d : List Bool) {n : Nat} (ha : n < a.length) (hb : n < b.length) :
    lessR (keyR (a.drop n)) (keyR (b.drop n)) (d.drop n) = if sameV a[n] b[n] = true then lessR (keyR (a.drop (n + 1))) (keyR (b.drop (n + 1))) (d.drop (n + 1)) else (ltV a[n] b[n] != (d.drop n).headD false) := by
  rw [List.drop_eq_getElem_cons ha, List.drop_eq_getElem_cons hb]
  show (if keyV a[n] = keyV b[n] then lessR (keyR _) (keyR _) (List.drop n d).tail else _) = _
  unfold sameV ltV
  by_cases h : keyV a[n] = keyV b[n]
  · rw [if_pos h, if_pos (by simpa using h), List.tail_drop]
  · rw [if_neg h, if_neg (by simpa using h)]
theorem lessR_nil_left (b : List K) (d : List Bool) : lessR [] b d = false := by unfold lessR; rfl
theorem lessR_nil_right (a : List K) (d : List Bool) : lessR a [] d = false := by cases a <;> (unfold lessR; rfl)

set_option maxHeartbeats 1000000 in
set_option maxRecDepth 100000 in
/-- fold.Less. -/
theorem foldLess_at {w : World} {av bv dv : Value} {a b : List V} {d : List Bool} (ha : RowAt w av a) (hb : RowAt w bv b) (hd : DescAt w dv d) (hab : b.length = a.length) :
    Calls Try.prog 17 #[av, bv, dv] w fun r w' => r = .returned (.bool (lessR (keyR a) (keyR b) d)) ∧ Below w.heap.size w w' := by
  obtain ⟨aa, ca, rfl, hal, hac⟩ := ha
  obtain ⟨ba, cb, rfl, hbl, hbc⟩ := hb
  obtain ⟨da, cd, rfl, hdl, hdc⟩ := hd
  have hst := fun n => @lessR_drop a b d n
  obtain ⟨R, hR⟩ : ∃ R, R = lessR (keyR a) (keyR b) d := ⟨_, rfl⟩
  rw [← hR]
  have HA := Lib.hid hac; have HB := Lib.hid hbc; have HD := Lib.hid hdc; have HST := Lib.hid hst; have HR := Lib.hid hR
  clear hac hbc hdc hst hR
  rw [hab]
  have HAB := Lib.hid hab
  clear hab hbl
  go_enter Try.func17, Try.ntmps17
  go_wp2_with fail
  go_loopw [13] (fun i wr => ∃ n : Nat, n ≤ a.length ∧ i = .int .i64 n ∧ Hid (R = lessR (keyR (a.drop n)) (keyR (b.drop n)) (d.drop n)) ∧ Below w.heap.size w wr) (fun i _ => a.length - (intOf i).toNat)
  case atStart => exact ⟨0, Nat.zero_le _, rfl, HR.out, Below.refl _ _⟩
  case round =>
    obtain ⟨n, hn, rfl, HN, hB⟩ := hrel
    by_cases hlt : n < a.length
    · have hltb : n < b.length := by rw [HAB.out]; exact hlt
      obtain ⟨g, off, hg, x0, x1, x2, x3⟩ := HA.out n hlt
      obtain ⟨g2, off2, hg2, y0, y1, y2, y3⟩ := HB.out n hltb
      subst hg hg2
      have hst := HN.out.trans (HST.out n hlt hltb)
      obtain ⟨x, hx⟩ : ∃ x, x = a[n] := ⟨_, rfl⟩
      obtain ⟨y, hy⟩ : ∃ y, y = b[n] := ⟨_, rfl⟩
      rw [← hx] at x0 x1 x2 x3 hst
      rw [← hy] at y0 y1 y2 y3 hst
      clear hx hy HN
      obtain ⟨xk, xi, xs, xb⟩ := x
      obtain ⟨yk, yi, ys, yb⟩ := y
      simp only at x0 x1 x2 x3 y0 y1 y2 y3
      have hsm : ∀ w, Calls Try.prog 30 #[.agg #[.int .u8 xk, .int .i64 xi, .string xs, .bool xb], .agg #[.int .u8 yk, .int .i64 yi, .string ys, .bool yb]] w fun r w' => r = .returned (.bool (sameV ⟨xk, xi, xs, xb⟩ ⟨yk, yi, ys, yb⟩)) ∧ Below w.heap.size w w' := fun w => same_at ⟨xk, xi, xs, xb⟩ ⟨yk, yi, ys, yb⟩ w
      have hls : ∀ w, Calls Try.prog 31 #[.agg #[.int .u8 xk, .int .i64 xi, .string xs, .bool xb], .agg #[.int .u8 yk, .int .i64 yi, .string ys, .bool yb]] w fun r w' => r = .returned (.bool (ltV ⟨xk, xi, xs, xb⟩ ⟨yk, yi, ys, yb⟩)) ∧ Below w.heap.size w w' := fun w => less_at ⟨xk, xi, xs, xb⟩ ⟨yk, yi, ys, yb⟩ w
      obtain ⟨sm, hsme⟩ : ∃ z, z = sameV ⟨xk, xi, xs, xb⟩ ⟨yk, yi, ys, yb⟩ := ⟨_, rfl⟩
      obtain ⟨ls, hlse⟩ : ∃ z, z = ltV ⟨xk, xi, xs, xb⟩ ⟨yk, yi, ys, yb⟩ := ⟨_, rfl⟩
      rw [← hsme] at hsm hst
      rw [← hlse] at hls hst
      have HS := Lib.hid hsm; have HL := Lib.hid hls; have HN := Lib.hid hst
      clear hsm hls hst hsme hlse
      have x0' := keeper hB x0
      have x1' := keeper hB x1
      have x2' := keeper hB x2
      have x3' := keeper hB x3
      have y0' := keeper hB y0
      have y1' := keeper hB y1
      have y2' := keeper hB y2
      have y3' := keeper hB y3
      clear x0 x1 x2 x3 y0 y1 y2 y3
      have hd0 : Below wr.heap.size wr wr.drew := below_drewN (n := 1)
      have hi0 : (0 : Int) ≤ (n : Int) := by omega
      have hi1 : (n : Int) < (a.length : Int) := by omega
      go_wp2_with fail
      go_region_held3 (fun z => z.cell? ⟨g, off + n * 4, none⟩ = some (.int .u8 xk) ∧ z.cell? ⟨g, off + n * 4 + 1, none⟩ = some (.int .i64 xi) ∧ z.cell? ⟨g, off + n * 4 + 2, none⟩ = some (.string xs) ∧ z.cell? ⟨g, off + n * 4 + 3, none⟩ = some (.bool xb) ∧ z.cell? ⟨g2, off2 + n * 4, none⟩ = some (.int .u8 yk) ∧ z.cell? ⟨g2, off2 + n * 4 + 1, none⟩ = some (.int .i64 yi) ∧ z.cell? ⟨g2, off2 + n * 4 + 2, none⟩ = some (.string ys) ∧ z.cell? ⟨g2, off2 + n * 4 + 3, none⟩ = some (.bool yb))
        (first | (with_reducible exact ⟨keeper hd1 x0', keeper hd1 x1', keeper hd1 x2', keeper hd1 x3', keeper hd1 y0', keeper hd1 y1', keeper hd1 y2', keeper hd1 y3'⟩) | (with_reducible exact ⟨keeper hd0 x0', keeper hd0 x1', keeper hd0 x2', keeper hd0 x3', keeper hd0 y0', keeper hd0 y1', keeper hd0 y2', keeper hd0 y3'⟩))
        (first | (go_at_call 30; (with_reducible refine (HS.out _).mono ?_); rintro r w1 ⟨rfl, hk1⟩; have hd1 := below_then hd0 hk1))
      have hB1 := below_then hB hd1
      cases sm with
      | true =>
        go_wp2_with fail
        go_roundw
        case rel => exact ⟨n + 1, by omega, by go_num, HN.out.trans (if_pos rfl), hB1⟩
        case measure => simp [intOf]; omega
      | false =>
        have x0 := keeper hd1 x0'
        have x1 := keeper hd1 x1'
        have x2 := keeper hd1 x2'
        have x3 := keeper hd1 x3'
        have y0 := keeper hd1 y0'
        have y1 := keeper hd1 y1'
        have y2 := keeper hd1 y2'
        have y3 := keeper hd1 y3'
        clear x0' x1' x2' x3' y0' y1' y2' y3'
        have HV := Lib.hid (HN.out.trans (if_neg (by decide)))
        have he0 : Below w1.heap.size w1 w1.drew := below_drewN (n := 1)
        by_cases hdn : n < d.length
        · obtain ⟨g3, off3, hg3, z0⟩ := HD.out n hdn
          subst hg3
          have z0' := keeper hB1 z0
          have hz : (d.drop n).headD false = d[n] := by rw [List.drop_eq_getElem_cons hdn]; rfl
          rw [hz] at HV
          clear z0 hz
          obtain ⟨db, hdb⟩ : ∃ z, z = d[n] := ⟨_, rfl⟩
          rw [← hdb] at z0' HV
          clear hdb
          have hdn' : (n : Int) < (d.length : Int) := by omega
          go_wp2_with fail
          go_region_held3 (fun z => z.cell? ⟨g, off + n * 4, none⟩ = some (.int .u8 xk) ∧ z.cell? ⟨g, off + n * 4 + 1, none⟩ = some (.int .i64 xi) ∧ z.cell? ⟨g, off + n * 4 + 2, none⟩ = some (.string xs) ∧ z.cell? ⟨g, off + n * 4 + 3, none⟩ = some (.bool xb) ∧ z.cell? ⟨g2, off2 + n * 4, none⟩ = some (.int .u8 yk) ∧ z.cell? ⟨g2, off2 + n * 4 + 1, none⟩ = some (.int .i64 yi) ∧ z.cell? ⟨g2, off2 + n * 4 + 2, none⟩ = some (.string ys) ∧ z.cell? ⟨g2, off2 + n * 4 + 3, none⟩ = some (.bool yb) ∧ z.cell? ⟨g3, off3 + n, none⟩ = some (.bool db))
            (first | (with_reducible exact ⟨keeper he1 x0, keeper he1 x1, keeper he1 x2, keeper he1 x3, keeper he1 y0, keeper he1 y1, keeper he1 y2, keeper he1 y3, keeper he1 z0'⟩) | (with_reducible exact ⟨keeper he0 x0, keeper he0 x1, keeper he0 x2, keeper he0 x3, keeper he0 y0, keeper he0 y1, keeper he0 y2, keeper he0 y3, keeper he0 z0'⟩))
            (first | (go_at_call 31; (with_reducible refine (HL.out _).mono ?_); rintro r w2 ⟨rfl, hk2⟩; have he1 := below_then he0 hk2))
          go_wp2_with fail
          go_ret
          exact ⟨ret_bool HV.out.symm, below_then hB1 he1⟩
        · have hz : (d.drop n).headD false = false := by rw [List.drop_eq_nil_of_le (by omega)]; rfl
          rw [hz] at HV
          clear hz
          have hdn' : ¬ (n : Int) < (d.length : Int) := by omega
          have hdn2 : decide ((n : Int) < (d.length : Int)) = false := by simpa using hdn
          go_wp2_with fail
          refine wp_region_noPanic ?_
          refine wp_region_held_drew (S := fun z => z.cell? ⟨g, off + n * 4, none⟩ = some (.int .u8 xk) ∧ z.cell? ⟨g, off + n * 4 + 1, none⟩ = some (.int .i64 xi) ∧ z.cell? ⟨g, off + n * 4 + 2, none⟩ = some (.string xs) ∧ z.cell? ⟨g, off + n * 4 + 3, none⟩ = some (.bool xb) ∧ z.cell? ⟨g2, off2 + n * 4, none⟩ = some (.int .u8 yk) ∧ z.cell? ⟨g2, off2 + n * 4 + 1, none⟩ = some (.int .i64 yi) ∧ z.cell? ⟨g2, off2 + n * 4 + 2, none⟩ = some (.string ys) ∧ z.cell? ⟨g2, off2 + n * 4 + 3, none⟩ = some (.bool yb)) (by kernel_rfl) (⟨keeper he0 x0, keeper he0 x1, keeper he0 x2, keeper he0 x3, keeper he0 y0, keeper he0 y1, keeper he0 y2, keeper he0 y3⟩) (fun hH => ?_)
          refine wpAnyH_take (i := 0) (oi := _) (v := ?_) rfl (by kernel_rfl) (by kernel_rfl) (by kernel_rfl) (fun _ _ _ h => h) (Or.inl ⟨by rfl, ?_⟩) hH ?_
          rotate_left 1
          · intro w0 _; go_simp; try with_reducible rfl
          try simp only [Act.put, List.getElem_toArray, List.getElem_cons_zero, List.setIfInBounds_toArray, List.set_cons_zero, List.set_cons_succ]
          refine wpAnyH_take (i := 1) (oi := _) (v := ?_) rfl (by kernel_rfl) (by kernel_rfl) (by kernel_rfl) (fun _ _ _ h => h) (Or.inl ⟨by rfl, ?_⟩) hH ?_
          rotate_left 1
          · intro w0 _; go_simp; try with_reducible rfl
          try simp only [Act.put, List.getElem_toArray, List.getElem_cons_zero, List.getElem_cons_succ, List.setIfInBounds_toArray, List.set_cons_zero, List.set_cons_succ]
          refine wpAnyH_take (i := 2) (oi := _) (v := ?_) rfl (by kernel_rfl) (by kernel_rfl) (by kernel_rfl) (fun _ _ _ h => h) (Or.inl ⟨by rfl, ?_⟩) hH ?_
          rotate_left 1
          · intro w0 _; go_simp; try with_reducible rfl
          try simp only [Act.put, List.getElem_toArray, List.getElem_cons_zero, List.getElem_cons_succ, List.setIfInBounds_toArray, List.set_cons_zero, List.set_cons_succ]
          refine wpAnyH_take (i := 3) (oi := _) (v := ?_) rfl (by kernel_rfl) (by kernel_rfl) (by kernel_rfl) (fun _ _ _ h => h) (Or.inl ⟨by rfl, ?_⟩) hH ?_
          rotate_left 1
          · intro w0 hSw; (try dsimp only at hSw); go_simp; try with_reducible rfl
          try simp only [Act.put, List.getElem_toArray, List.getElem_cons_zero, List.getElem_cons_succ, List.setIfInBounds_toArray, List.set_cons_zero, List.set_cons_succ]
          refine wpAnyH_take (i := 4) (oi := _) (v := ?_) rfl (by kernel_rfl) (by kernel_rfl) (by kernel_rfl) (fun _ _ _ h => h) (Or.inl ⟨by rfl, ?_⟩) hH ?_
          rotate_left 1
          · intro w0 _; go_simp; try with_reducible rfl
          try simp only [Act.put, List.getElem_toArray, List.getElem_cons_zero, List.getElem_cons_succ, List.setIfInBounds_toArray, List.set_cons_zero, List.set_cons_succ]
          refine wpAnyH_take (i := 5) (oi := _) (v := ?_) rfl (by kernel_rfl) (by kernel_rfl) (by kernel_rfl) (fun _ _ _ h => h) (Or.inl ⟨by rfl, ?_⟩) hH ?_
          rotate_left 1
          · intro w0 _; go_simp; try with_reducible rfl
          try simp only [Act.put, List.getElem_toArray, List.getElem_cons_zero, List.getElem_cons_succ, List.setIfInBounds_toArray, List.set_cons_zero, List.set_cons_succ]
          refine wpAnyH_take (i := 6) (oi := _) (v := ?_) rfl (by kernel_rfl) (by kernel_rfl) (by kernel_rfl) (fun _ _ _ h => h) (Or.inl ⟨by rfl, ?_⟩) hH ?_
          rotate_left 1
          · intro w0 _; go_simp; try with_reducible rfl
          try simp only [Act.put, List.getElem_toArray, List.getElem_cons_zero, List.getElem_cons_succ, List.setIfInBounds_toArray, List.set_cons_zero, List.set_cons_succ]
          refine wpAnyH_take (i := 7) (oi := _) (v := ?_) rfl (by kernel_rfl) (by kernel_rfl) (by kernel_rfl) (fun _ _ _ h => h) (Or.inl ⟨by rfl, ?_⟩) hH ?_
          rotate_left 1
          · intro w0 hSw; (try dsimp only at hSw); go_simp; try with_reducible rfl
          try simp only [Act.put, List.getElem_toArray, List.getElem_cons_zero, List.getElem_cons_succ, List.setIfInBounds_toArray, List.set_cons_zero, List.set_cons_succ]
          refine wpAnyH_take (i := 9) (oi := _) (v := ?_) rfl (by kernel_rfl) (by kernel_rfl) (by kernel_rfl) (fun _ _ _ h => h) (Or.inl ⟨by rfl, ?_⟩) hH ?_
          rotate_left 1
          · intro w0 _; go_simp; try with_reducible rfl
          try simp only [Act.put, List.getElem_toArray, List.getElem_cons_zero, List.getElem_cons_succ, List.setIfInBounds_toArray, List.set_cons_zero, List.set_cons_succ]
          refine wpAnyH_take (i := 10) (oi := _) (v := ?_) rfl (by kernel_rfl) (by kernel_rfl) (by kernel_rfl) (fun _ _ _ h => h) (Or.inl ⟨by rfl, ?_⟩) hH ?_
          rotate_left 1
          · intro w0 _; go_simp; try with_reducible rfl
          try simp only [Act.put, List.getElem_toArray, List.getElem_cons_zero, List.getElem_cons_succ, List.setIfInBounds_toArray, List.set_cons_zero, List.set_cons_succ]
          refine wpAnyH_take (i := 11) (oi := _) (v := ?_) rfl (by kernel_rfl) (by kernel_rfl) (by kernel_rfl) (fun _ _ _ h => h) (Or.inl ⟨by rfl, ?_⟩) hH ?_
          rotate_left 1
          · intro w0 _; go_simp; try with_reducible rfl
          try simp only [Act.put, List.getElem_toArray, List.getElem_cons_zero, List.getElem_cons_succ, List.setIfInBounds_toArray, List.set_cons_zero, List.set_cons_succ]
          refine wpAnyH_take (i := 12) (oi := _) (v := ?_) rfl (by kernel_rfl) (by kernel_rfl) (by kernel_rfl) (fun _ _ _ h => h) (Or.inl ⟨by rfl, ?_⟩) hH ?_
          rotate_left 1
          · intro w0 _; go_simp; try with_reducible rfl
          try simp only [Act.put, List.getElem_toArray, List.getElem_cons_zero, List.getElem_cons_succ, List.setIfInBounds_toArray, List.set_cons_zero, List.set_cons_succ]
          refine wpAnyH_ready (rs := [8]) (by kernel_rfl) (by simp) ?_
          refine AllReadyH.cons rfl (fun K hK => ?_) AllReadyH.nil
          go_simp
          go_at_call 31
          (with_reducible refine (HL.out _).mono ?_)
          rintro r w2 ⟨rfl, hk2⟩
          have he1 := below_then he0 hk2
          refine hK.out _ _ ?_ (fun hH2 => ?_)
          · exact ⟨keeper he1 x0, keeper he1 x1, keeper he1 x2, keeper he1 x3, keeper he1 y0, keeper he1 y1, keeper he1 y2, keeper he1 y3⟩
          clear hK K hH
          have hH := hH2
          clear hH2
          try simp only [Act.put, List.getElem_toArray, List.getElem_cons_zero, List.getElem_cons_succ, List.setIfInBounds_toArray, List.set_cons_zero, List.set_cons_succ]
          refine wpAnyH_take (i := 13) (oi := _) (v := ?_) rfl (by kernel_rfl) (by kernel_rfl) (by kernel_rfl) (fun _ _ _ h => h) (Or.inl ⟨by rfl, ?_⟩) hH ?_
          rotate_left 1
          · intro w0 _; go_simp; try with_reducible rfl
          try simp only [Act.put, List.getElem_toArray, List.getElem_cons_zero, List.getElem_cons_succ, List.setIfInBounds_toArray, List.set_cons_zero, List.set_cons_succ]
          refine wpAnyH_take (i := 14) (oi := _) (v := undef) rfl (by kernel_rfl) (by kernel_rfl) (by kernel_rfl) (fun _ _ _ h => h) (Or.inr ⟨by rfl, rfl⟩) hH ?_
          try simp only [Act.put, List.getElem_toArray, List.getElem_cons_zero, List.getElem_cons_succ, List.setIfInBounds_toArray, List.set_cons_zero, List.set_cons_succ]
          refine wpAnyH_take (i := 15) (oi := _) (v := undef) rfl (by kernel_rfl) (by kernel_rfl) (by kernel_rfl) (fun _ _ _ h => h) (Or.inr ⟨by rfl, rfl⟩) hH ?_
          try simp only [Act.put, List.getElem_toArray, List.getElem_cons_zero, List.getElem_cons_succ, List.setIfInBounds_toArray, List.set_cons_zero, List.set_cons_succ]
          refine wpAnyH_take (i := 16) (oi := _) (v := undef) rfl (by kernel_rfl) (by kernel_rfl) (by kernel_rfl) (fun _ _ _ h => h) (Or.inr ⟨by rfl, rfl⟩) hH ?_
          try simp only [Act.put, List.getElem_toArray, List.getElem_cons_zero, List.getElem_cons_succ, List.setIfInBounds_toArray, List.set_cons_zero, List.set_cons_succ]
          refine wpAnyH_take (i := 17) (oi := _) (v := undef) rfl (by kernel_rfl) (by kernel_rfl) (by kernel_rfl) (fun _ _ _ h => h) (Or.inr ⟨by rfl, rfl⟩) hH ?_
          try simp only [Act.put, List.getElem_toArray, List.getElem_cons_zero, List.getElem_cons_succ, List.setIfInBounds_toArray, List.set_cons_zero, List.set_cons_succ]
          refine wpAnyH_take (i := 18) (oi := _) (v := ?_) rfl (by kernel_rfl) (by kernel_rfl) (by kernel_rfl) (fun _ _ _ h => h) (Or.inl ⟨by rfl, ?_⟩) hH ?_
          rotate_left 1
          · intro w0 _; go_simp; try with_reducible rfl
          try simp only [Act.put, List.getElem_toArray, List.getElem_cons_zero, List.getElem_cons_succ, List.setIfInBounds_toArray, List.set_cons_zero, List.set_cons_succ]
          refine wpAnyH_take (i := 19) (oi := _) (v := ?_) rfl (by kernel_rfl) (by kernel_rfl) (by kernel_rfl) (fun _ _ _ h => h) (Or.inl ⟨by rfl, ?_⟩) hH ?_
          rotate_left 1
          · intro w0 _; go_simp; try with_reducible rfl
          try simp only [Act.put, List.getElem_toArray, List.getElem_cons_zero, List.getElem_cons_succ, List.setIfInBounds_toArray, List.set_cons_zero, List.set_cons_succ]
          refine wpAnyH_take (i := 20) (oi := _) (v := ?_) rfl (by kernel_rfl) (by kernel_rfl) (by kernel_rfl) (fun _ _ _ h => h) (Or.inl ⟨by rfl, ?_⟩) hH ?_
          rotate_left 1
          · intro w0 _; go_simp; try with_reducible rfl
          try simp only [Act.put, List.getElem_toArray, List.getElem_cons_zero, List.getElem_cons_succ, List.setIfInBounds_toArray, List.set_cons_zero, List.set_cons_succ]
          refine wpAnyH_done (by kernel_rfl) ?_ _
          refine NoPanic.normal ?_
          clear hH
          go_wp2_with fail
          go_ret
          exact ⟨ret_bool (HV.out.trans (by cases ls <;> rfl)).symm, below_then hB1 he1⟩
    · have hnl : n = a.length := by omega
      subst hnl
      have hv : R = false := by rw [HN.out, List.drop_length]; exact lessR_nil_left _ _
      have HV := Lib.hid hv
      clear hv
      go_wp2_with fail
      go_ret
      exact ⟨ret_bool HV.out.symm, hB⟩
end Go.Proofs.Ytifcdfilglbdgaa
