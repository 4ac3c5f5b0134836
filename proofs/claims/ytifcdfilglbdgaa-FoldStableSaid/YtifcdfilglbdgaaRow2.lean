/-
  KEYS: the document's Less and same; fold's same.
-/
import Derived.Test.YtifcdfilglbdgaaRow
namespace Go.Proofs.Ytifcdfilglbdgaa
open Go.RowKit
theorem ltV_flip {x y : V} (h : sameV x y = false) : ltV y x = !ltV x y := by
  rw [sameV_less] at h
  cases h1 : ltV x y with
  | true => exact ltK_asymm h1
  | false => rw [h1] at h; simpa using h
/-- Are two keys alike? -/
def sameR (a b : List V) : Bool := decide (keyR a = keyR b)
theorem sameR_drop (a b : List V) {n : Nat} (ha : n < a.length) (hb : n < b.length) :
    sameR (a.drop n) (b.drop n) = if sameV a[n] b[n] = true then sameR (a.drop (n + 1)) (b.drop (n + 1)) else false := by
  rw [List.drop_eq_getElem_cons ha, List.drop_eq_getElem_cons hb]
  unfold sameR sameV keyR
  rw [List.map_cons, List.map_cons]
  by_cases h : keyV a[n] = keyV b[n]
  · rw [if_pos (by simpa using h), h]
    simp
  · rw [if_neg (by simpa using h)]
    simp [h]
theorem sameR_len {a b : List V} (h : a.length ≠ b.length) : sameR a b = false := by
  unfold sameR keyR
  rw [decide_eq_false_iff_not]
  intro e
  have := congrArg List.length e
  simp at this
  exact h this
theorem sameR_end (a b : List V) (h : b.length = a.length) : sameR (a.drop a.length) (b.drop a.length) = true := by
  rw [List.drop_length, ← h, List.drop_length]; rfl

set_option maxHeartbeats 1000000 in
set_option maxRecDepth 100000 in
/-- lapidaryref19.Less. -/
theorem refLess_at {w : World} {av bv dv : Value} {a b : List V} {d : List Bool} (ha : RowAt w av a) (hb : RowAt w bv b) (hd : DescAt w dv d) (hab : b.length = a.length) :
    Calls Try.prog 18 #[av, bv, dv] w fun r w' => r = .returned (.bool (lessR (keyR a) (keyR b) d)) ∧ Below w.heap.size w w' := by
  obtain ⟨aa, ca, rfl, hal, hac⟩ := ha
  obtain ⟨ba, cb, rfl, hbl, hbc⟩ := hb
  obtain ⟨da, cd, rfl, hdl, hdc⟩ := hd
  have hst := fun n => @lessR_drop a b d n
  obtain ⟨R, hR⟩ : ∃ R, R = lessR (keyR a) (keyR b) d := ⟨_, rfl⟩
  rw [← hR]
  have HA := Lib.hid hac; have HB := Lib.hid hbc; have HD := Lib.hid hdc; have HST := Lib.hid hst; have HR := Lib.hid hR
  clear hac hbc hdc hst hR
  rw [hab]
  have HAB := Lib.hid hab
  clear hab hbl
  go_enter Try.func18, Try.ntmps18
  go_wp2_with fail
  go_loopw [10] (fun i wr => ∃ n : Nat, n ≤ a.length ∧ i = .int .i64 n ∧ Hid (R = lessR (keyR (a.drop n)) (keyR (b.drop n)) (d.drop n)) ∧ Below w.heap.size w wr) (fun i _ => a.length - (intOf i).toNat)
  case atStart => exact ⟨0, Nat.zero_le _, rfl, HR.out, Below.refl _ _⟩
  case round =>
    obtain ⟨n, hn, rfl, HN, hB⟩ := hrel
    by_cases hlt : n < a.length
    · have hltb0 : n < b.length := by rw [HAB.out]; exact hlt
      have hflip := fun (h : sameV a[n] b[n] = false) => ltV_flip h
      have hltb := hltb0
      obtain ⟨g, off, hg, x0, x1, x2, x3⟩ := HA.out n hlt
      obtain ⟨g2, off2, hg2, y0, y1, y2, y3⟩ := HB.out n hltb
      subst hg hg2
      have hst := HN.out.trans (HST.out n hlt hltb)
      obtain ⟨x, hx⟩ : ∃ x, x = a[n] := ⟨_, rfl⟩
      obtain ⟨y, hy⟩ : ∃ y, y = b[n] := ⟨_, rfl⟩
      rw [← hx] at x0 x1 x2 x3 hst hflip
      rw [← hy] at y0 y1 y2 y3 hst hflip
      clear hx hy HN
      obtain ⟨xk, xi, xs, xb⟩ := x
      obtain ⟨yk, yi, ys, yb⟩ := y
      simp only at x0 x1 x2 x3 y0 y1 y2 y3
      have hsm : ∀ w, Calls Try.prog 32 #[.agg #[.int .u8 xk, .int .i64 xi, .string xs, .bool xb], .agg #[.int .u8 yk, .int .i64 yi, .string ys, .bool yb]] w fun r w' => r = .returned (.bool (sameV ⟨xk, xi, xs, xb⟩ ⟨yk, yi, ys, yb⟩)) ∧ Below w.heap.size w w' := fun w => rsame_any _ _ _ _ _ _ _ _ w
      have hls : ∀ w, Calls Try.prog 33 #[.agg #[.int .u8 xk, .int .i64 xi, .string xs, .bool xb], .agg #[.int .u8 yk, .int .i64 yi, .string ys, .bool yb]] w fun r w' => r = .returned (.bool (ltV ⟨xk, xi, xs, xb⟩ ⟨yk, yi, ys, yb⟩)) ∧ Below w.heap.size w w' := fun w => rless_any _ _ _ _ _ _ _ _ w
      have hsl : ∀ w, Calls Try.prog 33 #[.agg #[.int .u8 yk, .int .i64 yi, .string ys, .bool yb], .agg #[.int .u8 xk, .int .i64 xi, .string xs, .bool xb]] w fun r w' => r = .returned (.bool (ltV ⟨yk, yi, ys, yb⟩ ⟨xk, xi, xs, xb⟩)) ∧ Below w.heap.size w w' := fun w => rless_any _ _ _ _ _ _ _ _ w
      obtain ⟨sm, hsme⟩ : ∃ z, z = sameV ⟨xk, xi, xs, xb⟩ ⟨yk, yi, ys, yb⟩ := ⟨_, rfl⟩
      obtain ⟨ls, hlse⟩ : ∃ z, z = ltV ⟨xk, xi, xs, xb⟩ ⟨yk, yi, ys, yb⟩ := ⟨_, rfl⟩
      obtain ⟨sl, hsle⟩ : ∃ z, z = ltV ⟨yk, yi, ys, yb⟩ ⟨xk, xi, xs, xb⟩ := ⟨_, rfl⟩
      rw [← hsme] at hsm hst hflip
      rw [← hlse] at hls hst hflip
      rw [← hsle] at hsl hflip
      have HS := Lib.hid hsm; have HL := Lib.hid hls; have HL2 := Lib.hid hsl; have HN := Lib.hid hst; have HF := Lib.hid hflip
      clear hsm hls hsl hst hflip hsme hlse hsle
      have x0' := keeper hB x0
      have x1' := keeper hB x1
      have x2' := keeper hB x2
      have x3' := keeper hB x3
      have y0' := keeper hB y0
      have y1' := keeper hB y1
      have y2' := keeper hB y2
      have y3' := keeper hB y3
      clear x0 x1 x2 x3 y0 y1 y2 y3
      have hd0 : Below wr.heap.size wr wr.drew := below_drewN (n := 1)
      have hi0 : (0 : Int) ≤ (n : Int) := by omega
      have hi1 : (n : Int) < (a.length : Int) := by omega
      have hi2 : ¬ (a.length : Int) ≤ (n : Int) := by omega
      go_wp2_with fail
      go_region_held3 (fun z => z.cell? ⟨g, off + n * 4, none⟩ = some (.int .u8 xk) ∧ z.cell? ⟨g, off + n * 4 + 1, none⟩ = some (.int .i64 xi) ∧ z.cell? ⟨g, off + n * 4 + 2, none⟩ = some (.string xs) ∧ z.cell? ⟨g, off + n * 4 + 3, none⟩ = some (.bool xb) ∧ z.cell? ⟨g2, off2 + n * 4, none⟩ = some (.int .u8 yk) ∧ z.cell? ⟨g2, off2 + n * 4 + 1, none⟩ = some (.int .i64 yi) ∧ z.cell? ⟨g2, off2 + n * 4 + 2, none⟩ = some (.string ys) ∧ z.cell? ⟨g2, off2 + n * 4 + 3, none⟩ = some (.bool yb))
        (first | (with_reducible exact ⟨keeper hd1 x0', keeper hd1 x1', keeper hd1 x2', keeper hd1 x3', keeper hd1 y0', keeper hd1 y1', keeper hd1 y2', keeper hd1 y3'⟩) | (with_reducible exact ⟨keeper hd0 x0', keeper hd0 x1', keeper hd0 x2', keeper hd0 x3', keeper hd0 y0', keeper hd0 y1', keeper hd0 y2', keeper hd0 y3'⟩))
        (first | (go_at_call 32; (with_reducible refine (HS.out _).mono ?_); rintro r w1 ⟨rfl, hk1⟩; have hd1 := below_then hd0 hk1))
      have hB1 := below_then hB hd1
      cases sm with
      | true =>
        go_wp2_with fail
        go_roundw
        case rel => exact ⟨n + 1, by omega, by go_num, HN.out.trans (if_pos (by simp)), hB1⟩
        case measure => simp [intOf]; omega
      | false =>
        have x0 := keeper hd1 x0'
        have x1 := keeper hd1 x1'
        have x2 := keeper hd1 x2'
        have x3 := keeper hd1 x3'
        have y0 := keeper hd1 y0'
        have y1 := keeper hd1 y1'
        have y2 := keeper hd1 y2'
        have y3 := keeper hd1 y3'
        clear x0' x1' x2' x3' y0' y1' y2' y3'
        have HV := Lib.hid (HN.out.trans (if_neg (by decide)))
        have hfl : sl = !ls := HF.out rfl
        have HFL := Lib.hid hfl
        clear hfl
        have he0 : Below w1.heap.size w1 w1.drew := below_drewN (n := 1)
        by_cases hdn : n < d.length
        · obtain ⟨g3, off3, hg3, z0⟩ := HD.out n hdn
          subst hg3
          have z0' := keeper hB1 z0
          have hz : (d.drop n).headD false = d[n] := by rw [List.drop_eq_getElem_cons hdn]; rfl
          rw [hz] at HV
          clear z0 hz
          obtain ⟨db, hdb⟩ : ∃ z, z = d[n] := ⟨_, rfl⟩
          rw [← hdb] at z0' HV
          clear hdb
          have hdn' : (n : Int) < (d.length : Int) := by omega
          cases db with
          | true =>
            go_wp2_with fail
            go_region_held3 (fun z => z.cell? ⟨g, off + n * 4, none⟩ = some (.int .u8 xk) ∧ z.cell? ⟨g, off + n * 4 + 1, none⟩ = some (.int .i64 xi) ∧ z.cell? ⟨g, off + n * 4 + 2, none⟩ = some (.string xs) ∧ z.cell? ⟨g, off + n * 4 + 3, none⟩ = some (.bool xb) ∧ z.cell? ⟨g2, off2 + n * 4, none⟩ = some (.int .u8 yk) ∧ z.cell? ⟨g2, off2 + n * 4 + 1, none⟩ = some (.int .i64 yi) ∧ z.cell? ⟨g2, off2 + n * 4 + 2, none⟩ = some (.string ys) ∧ z.cell? ⟨g2, off2 + n * 4 + 3, none⟩ = some (.bool yb))
              (first | (with_reducible exact ⟨keeper he1 x0, keeper he1 x1, keeper he1 x2, keeper he1 x3, keeper he1 y0, keeper he1 y1, keeper he1 y2, keeper he1 y3⟩) | (with_reducible exact ⟨keeper he0 x0, keeper he0 x1, keeper he0 x2, keeper he0 x3, keeper he0 y0, keeper he0 y1, keeper he0 y2, keeper he0 y3⟩))
              (first | (go_at_call 33; (with_reducible refine (HL2.out _).mono ?_); rintro r w2 ⟨rfl, hk2⟩; have he1 := below_then he0 hk2))
            go_wp2_with fail
            go_ret
            exact ⟨ret_bool (by rw [HV.out, HFL.out]; cases ls <;> rfl), below_then hB1 he1⟩
          | false =>
            go_wp2_with fail
            go_region_held3 (fun z => z.cell? ⟨g, off + n * 4, none⟩ = some (.int .u8 xk) ∧ z.cell? ⟨g, off + n * 4 + 1, none⟩ = some (.int .i64 xi) ∧ z.cell? ⟨g, off + n * 4 + 2, none⟩ = some (.string xs) ∧ z.cell? ⟨g, off + n * 4 + 3, none⟩ = some (.bool xb) ∧ z.cell? ⟨g2, off2 + n * 4, none⟩ = some (.int .u8 yk) ∧ z.cell? ⟨g2, off2 + n * 4 + 1, none⟩ = some (.int .i64 yi) ∧ z.cell? ⟨g2, off2 + n * 4 + 2, none⟩ = some (.string ys) ∧ z.cell? ⟨g2, off2 + n * 4 + 3, none⟩ = some (.bool yb))
              (first | (with_reducible exact ⟨keeper he1 x0, keeper he1 x1, keeper he1 x2, keeper he1 x3, keeper he1 y0, keeper he1 y1, keeper he1 y2, keeper he1 y3⟩) | (with_reducible exact ⟨keeper he0 x0, keeper he0 x1, keeper he0 x2, keeper he0 x3, keeper he0 y0, keeper he0 y1, keeper he0 y2, keeper he0 y3⟩))
              (first | (go_at_call 33; (with_reducible refine (HL.out _).mono ?_); rintro r w2 ⟨rfl, hk2⟩; have he1 := below_then he0 hk2))
            go_wp2_with fail
            go_ret
            exact ⟨ret_bool (by rw [HV.out]; cases ls <;> rfl), below_then hB1 he1⟩
        · have hz : (d.drop n).headD false = false := by rw [List.drop_eq_nil_of_le (by omega)]; rfl
          rw [hz] at HV
          clear hz
          have hdn' : ¬ (n : Int) < (d.length : Int) := by omega
          go_wp2_with fail
          go_region_held3 (fun z => z.cell? ⟨g, off + n * 4, none⟩ = some (.int .u8 xk) ∧ z.cell? ⟨g, off + n * 4 + 1, none⟩ = some (.int .i64 xi) ∧ z.cell? ⟨g, off + n * 4 + 2, none⟩ = some (.string xs) ∧ z.cell? ⟨g, off + n * 4 + 3, none⟩ = some (.bool xb) ∧ z.cell? ⟨g2, off2 + n * 4, none⟩ = some (.int .u8 yk) ∧ z.cell? ⟨g2, off2 + n * 4 + 1, none⟩ = some (.int .i64 yi) ∧ z.cell? ⟨g2, off2 + n * 4 + 2, none⟩ = some (.string ys) ∧ z.cell? ⟨g2, off2 + n * 4 + 3, none⟩ = some (.bool yb))
            (first | (with_reducible exact ⟨keeper he1 x0, keeper he1 x1, keeper he1 x2, keeper he1 x3, keeper he1 y0, keeper he1 y1, keeper he1 y2, keeper he1 y3⟩) | (with_reducible exact ⟨keeper he0 x0, keeper he0 x1, keeper he0 x2, keeper he0 x3, keeper he0 y0, keeper he0 y1, keeper he0 y2, keeper he0 y3⟩))
            (first | (go_at_call 33; (with_reducible refine (HL.out _).mono ?_); rintro r w2 ⟨rfl, hk2⟩; have he1 := below_then he0 hk2))
          go_wp2_with fail
          go_ret
          exact ⟨ret_bool (by rw [HV.out]; cases ls <;> rfl), below_then hB1 he1⟩
    · have hnl : n = a.length := by omega
      subst hnl
      have hv : R = false := by rw [HN.out, List.drop_length]; exact lessR_nil_left _ _
      have HV := Lib.hid hv
      clear hv
      go_wp2_with fail
      go_ret
      exact ⟨ret_bool HV.out.symm, hB⟩

set_option maxRecDepth 100000 in
/-- lapidaryref19.same: lengths that differ. -/
theorem refSame_ne {w : World} {av bv : Value} {a b : List V} (ha : RowAt w av a) (hb : RowAt w bv b) (hab : b.length ≠ a.length) :
    Calls Try.prog 26 #[av, bv] w fun r w' => r = .returned (.bool (sameR a b)) ∧ Below w.heap.size w w' := by
  obtain ⟨aa, ca, rfl, hal, hac⟩ := ha
  obtain ⟨ba, cb, rfl, hbl, hbc⟩ := hb
  rw [sameR_len (Ne.symm hab)]
  have hne : ((a.length : Int) != (b.length : Int)) = true := by rw [bne_iff_ne]; omega
  clear hac hbc
  go_enter Try.func26, Try.ntmps26
  go_wp2_with fail
  go_ret
  exact ⟨rfl, Below.refl _ _⟩

set_option maxHeartbeats 1000000 in
set_option maxRecDepth 100000 in
/-- lapidaryref19.same: lengths that are the same. -/
theorem refSame_eq {w : World} {av bv : Value} {a b : List V} (ha : RowAt w av a) (hb : RowAt w bv b) (hab : b.length = a.length) :
    Calls Try.prog 26 #[av, bv] w fun r w' => r = .returned (.bool (sameR a b)) ∧ Below w.heap.size w w' := by
  obtain ⟨aa, ca, rfl, hal, hac⟩ := ha
  obtain ⟨ba, cb, rfl, hbl, hbc⟩ := hb
  have hst := fun n => @sameR_drop a b n
  have hend := sameR_end a b hab
  obtain ⟨R, hR⟩ : ∃ R, R = sameR a b := ⟨_, rfl⟩
  rw [← hR]
  have HA := Lib.hid hac; have HB := Lib.hid hbc; have HST := Lib.hid hst; have HR := Lib.hid hR; have HE := Lib.hid hend
  clear hac hbc hst hR hend
  rw [hab]
  have HAB := Lib.hid hab
  clear hab hbl
  go_enter Try.func26, Try.ntmps26
  go_wp2_with fail
  go_loopw [13] (fun i wr => ∃ n : Nat, n ≤ a.length ∧ i = .int .i64 n ∧ Hid (R = sameR (a.drop n) (b.drop n)) ∧ Below w.heap.size w wr) (fun i _ => a.length - (intOf i).toNat)
  case atStart => exact ⟨0, Nat.zero_le _, rfl, HR.out, Below.refl _ _⟩
  case round =>
    obtain ⟨n, hn, rfl, HN, hB⟩ := hrel
    by_cases hlt : n < a.length
    · have hltb : n < b.length := by rw [HAB.out]; exact hlt
      obtain ⟨g, off, hg, x0, x1, x2, x3⟩ := HA.out n hlt
      obtain ⟨g2, off2, hg2, y0, y1, y2, y3⟩ := HB.out n hltb
      subst hg hg2
      have hst := HN.out.trans (HST.out n hlt hltb)
      obtain ⟨x, hx⟩ : ∃ x, x = a[n] := ⟨_, rfl⟩
      obtain ⟨y, hy⟩ : ∃ y, y = b[n] := ⟨_, rfl⟩
      rw [← hx] at x0 x1 x2 x3 hst
      rw [← hy] at y0 y1 y2 y3 hst
      clear hx hy HN
      obtain ⟨xk, xi, xs, xb⟩ := x
      obtain ⟨yk, yi, ys, yb⟩ := y
      simp only at x0 x1 x2 x3 y0 y1 y2 y3
      have hsm : ∀ w, Calls Try.prog 32 #[.agg #[.int .u8 xk, .int .i64 xi, .string xs, .bool xb], .agg #[.int .u8 yk, .int .i64 yi, .string ys, .bool yb]] w fun r w' => r = .returned (.bool (sameV ⟨xk, xi, xs, xb⟩ ⟨yk, yi, ys, yb⟩)) ∧ Below w.heap.size w w' := fun w => rsame_any _ _ _ _ _ _ _ _ w
      obtain ⟨sm, hsme⟩ : ∃ z, z = sameV ⟨xk, xi, xs, xb⟩ ⟨yk, yi, ys, yb⟩ := ⟨_, rfl⟩
      rw [← hsme] at hsm hst
      have HS := Lib.hid hsm; have HN := Lib.hid hst
      clear hsm hst hsme
      have x0' := keeper hB x0
      have x1' := keeper hB x1
      have x2' := keeper hB x2
      have x3' := keeper hB x3
      have y0' := keeper hB y0
      have y1' := keeper hB y1
      have y2' := keeper hB y2
      have y3' := keeper hB y3
      clear x0 x1 x2 x3 y0 y1 y2 y3
      have hi0 : (0 : Int) ≤ (n : Int) := by omega
      have hi1 : (n : Int) < (a.length : Int) := by omega
      have hd0 : Below wr.heap.size wr wr.drew := below_drewN (n := 1)
      go_wp2_with fail
      go_region_held3 (fun z => z.cell? ⟨g, off + n * 4, none⟩ = some (.int .u8 xk) ∧ z.cell? ⟨g, off + n * 4 + 1, none⟩ = some (.int .i64 xi) ∧ z.cell? ⟨g, off + n * 4 + 2, none⟩ = some (.string xs) ∧ z.cell? ⟨g, off + n * 4 + 3, none⟩ = some (.bool xb) ∧ z.cell? ⟨g2, off2 + n * 4, none⟩ = some (.int .u8 yk) ∧ z.cell? ⟨g2, off2 + n * 4 + 1, none⟩ = some (.int .i64 yi) ∧ z.cell? ⟨g2, off2 + n * 4 + 2, none⟩ = some (.string ys) ∧ z.cell? ⟨g2, off2 + n * 4 + 3, none⟩ = some (.bool yb))
        (first | (with_reducible exact ⟨keeper hd1 x0', keeper hd1 x1', keeper hd1 x2', keeper hd1 x3', keeper hd1 y0', keeper hd1 y1', keeper hd1 y2', keeper hd1 y3'⟩) | (with_reducible exact ⟨keeper hd0 x0', keeper hd0 x1', keeper hd0 x2', keeper hd0 x3', keeper hd0 y0', keeper hd0 y1', keeper hd0 y2', keeper hd0 y3'⟩))
        (first | (go_at_call 32; (with_reducible refine (HS.out _).mono ?_); rintro r w1 ⟨rfl, hk1⟩; have hd1 := below_then hd0 hk1))
      have hB1 := below_then hB hd1
      cases sm with
      | true =>
        go_wp2_with fail
        go_roundw
        case rel => exact ⟨n + 1, by omega, by go_num, HN.out.trans (if_pos (by simp)), hB1⟩
        case measure => simp [intOf]; omega
      | false =>
        have HV := Lib.hid (HN.out.trans (if_neg (by decide)))
        go_wp2_with fail
        go_ret
        exact ⟨ret_bool HV.out.symm, hB1⟩
    · have hnl : n = a.length := by omega
      subst hnl
      have HV := Lib.hid (HN.out.trans HE.out)
      go_wp2_with fail
      go_ret
      exact ⟨ret_bool HV.out.symm, hB⟩
theorem refSame_at {w : World} {av bv : Value} {a b : List V} (ha : RowAt w av a) (hb : RowAt w bv b) :
    Calls Try.prog 26 #[av, bv] w fun r w' => r = .returned (.bool (sameR a b)) ∧ Below w.heap.size w w' := by
  by_cases h : b.length = a.length
  · exact refSame_eq ha hb h
  · exact refSame_ne ha hb h

set_option maxRecDepth 100000 in
/-- slices.EqualFunc by cell.Same: lengths that differ. -/
theorem equalFunc_ne {w : World} {av bv : Value} {a b : List V} (ha : RowAt w av a) (hb : RowAt w bv b) (hab : b.length ≠ a.length) :
    Calls Try.prog 35 #[av, bv, .func (.func 30) #[] #[]] w fun r w' => r = .returned (.bool (sameR a b)) ∧ Below w.heap.size w w' := by
  obtain ⟨aa, ca, rfl, hal, hac⟩ := ha
  obtain ⟨ba, cb, rfl, hbl, hbc⟩ := hb
  rw [sameR_len (Ne.symm hab)]
  have hne : ((a.length : Int) != (b.length : Int)) = true := by rw [bne_iff_ne]; omega
  clear hac hbc
  go_enter Try.func35, Try.ntmps35
  go_wp2_with fail
  go_ret
  exact ⟨rfl, Below.refl _ _⟩

set_option maxHeartbeats 1000000 in
set_option maxRecDepth 100000 in
/-- slices.EqualFunc by cell.Same: lengths that are the same. -/
theorem equalFunc_eq {w : World} {av bv : Value} {a b : List V} (ha : RowAt w av a) (hb : RowAt w bv b) (hab : b.length = a.length) :
    Calls Try.prog 35 #[av, bv, .func (.func 30) #[] #[]] w fun r w' => r = .returned (.bool (sameR a b)) ∧ Below w.heap.size w w' := by
  obtain ⟨aa, ca, rfl, hal, hac⟩ := ha
  obtain ⟨ba, cb, rfl, hbl, hbc⟩ := hb
  have hst := fun n => @sameR_drop a b n
  have hend := sameR_end a b hab
  obtain ⟨R, hR⟩ : ∃ R, R = sameR a b := ⟨_, rfl⟩
  rw [← hR]
  have HA := Lib.hid hac; have HB := Lib.hid hbc; have HST := Lib.hid hst; have HR := Lib.hid hR; have HE := Lib.hid hend
  clear hac hbc hst hR hend
  rw [hab]
  have HAB := Lib.hid hab
  clear hab hbl
  go_enter Try.func35, Try.ntmps35
  go_wp2_with fail
  go_loopw [17] (fun i wr => ∃ n : Nat, n ≤ a.length ∧ i = .int .i64 n ∧ Hid (R = sameR (a.drop n) (b.drop n)) ∧ Below w.heap.size w wr) (fun i _ => a.length - (intOf i).toNat)
  case atStart => exact ⟨0, Nat.zero_le _, rfl, HR.out, Below.refl _ _⟩
  case round =>
    obtain ⟨n, hn, rfl, HN, hB⟩ := hrel
    by_cases hlt : n < a.length
    · have hltb : n < b.length := by rw [HAB.out]; exact hlt
      obtain ⟨g, off, hg, x0, x1, x2, x3⟩ := HA.out n hlt
      obtain ⟨g2, off2, hg2, y0, y1, y2, y3⟩ := HB.out n hltb
      subst hg hg2
      have hst := HN.out.trans (HST.out n hlt hltb)
      obtain ⟨x, hx⟩ : ∃ x, x = a[n] := ⟨_, rfl⟩
      obtain ⟨y, hy⟩ : ∃ y, y = b[n] := ⟨_, rfl⟩
      rw [← hx] at x0 x1 x2 x3 hst
      rw [← hy] at y0 y1 y2 y3 hst
      clear hx hy HN
      obtain ⟨xk, xi, xs, xb⟩ := x
      obtain ⟨yk, yi, ys, yb⟩ := y
      simp only at x0 x1 x2 x3 y0 y1 y2 y3
      have hsm : ∀ w, Calls Try.prog 30 #[.agg #[.int .u8 xk, .int .i64 xi, .string xs, .bool xb], .agg #[.int .u8 yk, .int .i64 yi, .string ys, .bool yb]] w fun r w' => r = .returned (.bool (sameV ⟨xk, xi, xs, xb⟩ ⟨yk, yi, ys, yb⟩)) ∧ Below w.heap.size w w' := fun w => same_at ⟨xk, xi, xs, xb⟩ ⟨yk, yi, ys, yb⟩ w
      obtain ⟨sm, hsme⟩ : ∃ z, z = sameV ⟨xk, xi, xs, xb⟩ ⟨yk, yi, ys, yb⟩ := ⟨_, rfl⟩
      rw [← hsme] at hsm hst
      have HS := Lib.hid hsm; have HN := Lib.hid hst
      clear hsm hst hsme
      have x0' := keeper hB x0
      have x1' := keeper hB x1
      have x2' := keeper hB x2
      have x3' := keeper hB x3
      have y0' := keeper hB y0
      have y1' := keeper hB y1
      have y2' := keeper hB y2
      have y3' := keeper hB y3
      clear x0 x1 x2 x3 y0 y1 y2 y3
      have hi0 : (0 : Int) ≤ (n : Int) := by omega
      have hi1 : (n : Int) < (a.length : Int) := by omega
      have hal2 : Below wr.heap.size wr (wr.alloc (.cells #[.int .u8 xk, .int .i64 xi, .string xs, .bool xb] 39)) := below_alloc _ _
      have y0a := keeper hal2 y0'
      have y1a := keeper hal2 y1'
      have y2a := keeper hal2 y2'
      have y3a := keeper hal2 y3'
      have hal3 := below_then hal2 (below_alloc (wr.alloc (.cells #[.int .u8 xk, .int .i64 xi, .string xs, .bool xb] 39)) (.cells #[.int .u8 yk, .int .i64 yi, .string ys, .bool yb] 39))
      go_wp2_with fail
      refine (HS.out _).mono ?_
      rintro r w1 ⟨rfl, hk1⟩
      have hd1 := below_then hal3 hk1
      have hB1 := below_then hB hd1
      cases sm with
      | true =>
        go_wp2_with fail
        go_roundw
        case rel => exact ⟨n + 1, by omega, by go_num, HN.out.trans (if_pos (by simp)), hB1⟩
        case measure => simp [intOf]; omega
      | false =>
        have HV := Lib.hid (HN.out.trans (if_neg (by decide)))
        go_wp2_with fail
        go_ret
        exact ⟨ret_bool HV.out.symm, hB1⟩
    · have hnl : n = a.length := by omega
      subst hnl
      have HV := Lib.hid (HN.out.trans HE.out)
      go_wp2_with fail
      go_ret
      exact ⟨ret_bool HV.out.symm, hB⟩
theorem equalFunc_at {w : World} {av bv : Value} {a b : List V} (ha : RowAt w av a) (hb : RowAt w bv b) :
    Calls Try.prog 35 #[av, bv, .func (.func 30) #[] #[]] w fun r w' => r = .returned (.bool (sameR a b)) ∧ Below w.heap.size w w' := by
  by_cases h : b.length = a.length
  · exact equalFunc_eq ha hb h
  · exact equalFunc_ne ha hb h

set_option maxRecDepth 100000 in
/-- fold.same. -/
theorem foldSame_at {w : World} {av bv : Value} {a b : List V} (ha : RowAt w av a) (hb : RowAt w bv b) :
    Calls Try.prog 25 #[av, bv] w fun r w' => r = .returned (.bool (sameR a b)) ∧ Below w.heap.size w w' := by
  have HE := Lib.hid (equalFunc_at ha hb)
  clear ha hb
  go_enter Try.func25, Try.ntmps25
  go_wp2_with fail
  refine HE.out.mono ?_
  rintro r w1 ⟨rfl, hk1⟩
  go_wp2_with fail
  go_ret
  exact ⟨rfl, hk1⟩
end Go.Proofs.Ytifcdfilglbdgaa
