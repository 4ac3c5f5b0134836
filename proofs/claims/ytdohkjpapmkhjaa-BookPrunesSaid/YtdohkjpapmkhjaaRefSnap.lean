/-
  THE DOCUMENT's SNAPSHOTS (package lapidaryref10): what Sees, Visible, Free, Dead, Horizon come to: the same as the program's.
-/
import Derived.Test.YtdohkjpapmkhjaaRefTen
namespace Go.Proofs.Ytdohkjpapmkhjaa
open Go.RowKit

section
variable {c : Nat → Nat} {k p : Nat} {w w' : World} {f : Int} {L : List Nat}

theorem keep1 (u : Below w.heap.size w w') {a : Addr} {x : Value} (h : w.cell? a = some x) : w'.cell? a = some x := (Upd.same (S := fun _ => False) u).cell h id
set_option maxRecDepth 100000 in
/-- lapidaryref10.Sees. -/
theorem rsees_at (h : RefAt c k w p f L) {s : Snp} {rv : Value} (hr : Run w rv s.run) (x : Int) (hx : x < 18446744073709551616) :
    Calls Try.prog 41 #[.pointer (some ⟨p, 0, none⟩), s.ref rv, .int .u64 x] w fun e w' => e = .returned (.bool (sees f L s x)) ∧ Below w.heap.size w w' := by
  obtain ⟨own, xmin, xmax, run⟩ := s
  unfold Snp.ref
  simp only at hr ⊢
  obtain ⟨hrow, hrl⟩ := hr
  obtain ⟨ra, rc, rfl⟩ := ownsRow_slice hrow
  have hal := (Below.refl w.heap.size w).alloc (Nat.le_refl _) (.cells #[.int .u64 own, .int .u64 xmax, .slice ra run.length rc] 93)
  have hrow' := World.ownsRow.alloc hrow (.cells #[.int .u64 own, .int .u64 xmax, .slice ra run.length rc] 93)
  by_cases e1 : x = own
  · have hs : sees f L ⟨own, xmin, xmax, run⟩ x = true := by simp [sees, e1]
    have hb : (x == own) = true := by rw [beq_iff_eq]; exact e1
    rw [hs]; clear hs e1
    go_enter Try.func41, Try.ntmps41
    go_wp2_with fail
    go_ret
    exact ⟨rfl, hal⟩
  have hb : (x == own) = false := by rw [beq_eq_false_iff_ne]; exact e1
  have hsee : sees f L ⟨own, xmin, xmax, run⟩ x = (decide (x < xmax) && !run.contains x && stt f L x == 2) := by unfold sees; simp only [hb, Bool.false_or]
  obtain ⟨B, hB⟩ : ∃ B, B = sees f L ⟨own, xmin, xmax, run⟩ x := ⟨_, rfl⟩
  rw [← hB]
  rw [hsee] at hB
  have HB := Lib.hid hB; clear hB
  have hl' := h.same hal
  clear hsee e1
  go_enter Try.func41, Try.ntmps41
  go_wp2_with fail
  go_loop [16] (fun i => ∃ n : Nat, n ≤ run.length ∧ i = .int .i64 n ∧ ∀ j (hj : j < run.length), j < n → run[j] ≠ x) (fun i => run.length - (intOf i).toNat)
  case atStart => exact ⟨0, Nat.zero_le _, rfl, fun j hj h => by omega⟩
  case round =>
    obtain ⟨n, hn, rfl, hnot⟩ := hrel
    by_cases hlt : n < run.length
    · have hy : (u64s run)[n]? = some (.int .u64 run[n]) := by simp [u64s, hlt]
      obtain ⟨g, gc, hgv, cy, _, _, _⟩ := ownsRow_cell1 hrow' hy
      simp only [Value.slice.injEq] at hgv
      obtain ⟨rfl, _, rfl⟩ := hgv
      have hmem : run[n] ∈ run := List.getElem_mem hlt
      have hnext : run[n] ≠ x → ∀ j (hj : j < run.length), j < n + 1 → run[j] ≠ x := fun hne j hj hjn => by
        by_cases e : j = n
        · subst e; exact hne
        · exact hnot j hj (by omega)
      obtain ⟨y, hyy⟩ : ∃ z, z = run[n] := ⟨_, rfl⟩
      rw [← hyy] at cy hmem hnext
      have HN := Lib.hid hnext
      clear hyy hy hnot hnext
      by_cases e : y = x
      · have hq : (y == x) = true := by rw [beq_iff_eq]; exact e
        have hc : run.contains x = true := by simpa [← e] using hmem
        have HC := Lib.hid hc
        clear hc hmem e
        go_wp2_with fail
        go_ret
        obtain rfl : B = false := by rw [HB.out, HC.out]; simp
        exact ⟨rfl, hal⟩
      · have hq : (y == x) = false := by rw [beq_eq_false_iff_ne]; exact e
        have HE := Lib.hid e
        clear hmem e
        go_wp2_with fail
        go_round
        case rel => exact ⟨n + 1, by omega, by go_num, HN.out HE.out⟩
        case measure => simp [intOf]; omega
    · have hnl : n = run.length := by omega
      subst hnl
      have hc : run.contains x = false := by
        rw [List.contains_eq_mem, decide_eq_false_iff_not]
        intro hm
        obtain ⟨j, hj, e⟩ := List.mem_iff_getElem.1 hm
        exact hnot j hj hj e
      have HC := Lib.hid hc
      clear hnot
      by_cases e2 : x < xmax
      · have e : (stt f L x == 2) = (((stt f L x : Nat) : Int) == 2) := by rw [Bool.eq_iff_iff]; simp; omega
        have HE := Lib.hid e
        clear e hc
        go_wp2_with (go_at_call 27; refine (rstate_at hl' x hx).mono ?_; rintro e w1 ⟨rfl, m, rfl⟩)
        go_ret
        obtain rfl : B = (((stt f L x : Nat) : Int) == 2) := by rw [HB.out, HC.out, HE.out]; simp [e2]
        exact ⟨rfl, hal.trans below_drewN⟩
      · have hd : decide (x < xmax) = false := by simpa using e2
        clear e2 hc
        go_wp2_with fail
        go_ret
        obtain rfl : B = false := by rw [HB.out, hd]; rfl
        exact ⟨rfl, hal⟩

/-- lapidaryref10.Visible. -/
theorem rvis_at (h : RefAt c k w p f L) {s : Snp} {rv : Value} (hr : Run w rv s.run) (a b : Int) (ha : a < 18446744073709551616) (hb1 : b < 18446744073709551616) :
    Calls Try.prog 42 #[.pointer (some ⟨p, 0, none⟩), s.ref rv, tup a b] w fun e w' => e = .returned (.bool (vis f L s a b)) ∧ Below w.heap.size w w' := by
  have hsee : ∀ (w : World), RefAt c k w p f L → Run w rv s.run → ∀ x, x < 18446744073709551616 → Calls Try.prog 41 #[.pointer (some ⟨p, 0, none⟩), s.ref rv, .int .u64 x] w fun e w' => e = .returned (.bool (sees f L s x)) ∧ Below w.heap.size w w' := fun w h hr x hx => rsees_at h hr x hx
  have HSEE := Lib.hid hsee; clear hsee
  have hv : vis f L s a b = (sees f L s a && (b == 0 || !sees f L s b)) := rfl
  obtain ⟨sa, hsa⟩ : ∃ z, z = sees f L s a := ⟨_, rfl⟩
  obtain ⟨sb, hsb⟩ : ∃ z, z = sees f L s b := ⟨_, rfl⟩
  rw [hv, ← hsa, ← hsb]
  have HA := Lib.hid hsa; clear hsa
  have HB := Lib.hid hsb; clear hsb hv
  obtain ⟨own, xmin, xmax, run⟩ := s
  unfold Snp.ref tup at *
  simp only at hr HSEE ⊢
  have hal : Below w.heap.size w ((w.alloc (.cells #[.int .u64 own, .int .u64 xmax, rv] 93)).alloc (.cells #[.int .u64 0, .int .u64 a, .int .u64 b, .int .i64 0, .int .i64 0, .slice none 0 0] 76)) :=
    ((Below.refl w.heap.size w).alloc (Nat.le_refl _) _).alloc (by simp) _
  cases sa
  · go_enter Try.func42, Try.ntmps42
    go_wp2_with (go_at_call 41; refine (HSEE.out _ (h.same hal) (hr.same hal) a ha).mono ?_; rw [← HA.out]; rintro e w1 ⟨rfl, b1⟩)
    go_ret
    exact ⟨rfl, hal.trans (b1.mono hal.size)⟩
  by_cases hb0 : b = 0
  · have hb : (b == 0) = true := by rw [beq_iff_eq]; exact hb0
    clear hb0
    go_enter Try.func42, Try.ntmps42
    go_wp2_with fail
    refine (HSEE.out _ (h.same hal) (hr.same hal) a ha).mono ?_
    rw [← HA.out]
    rintro e w1 ⟨rfl, b1⟩
    have hc : w1.cell? ⟨w.heap.size + 1, 2, none⟩ = some (.int .u64 b) := (b1.cell (p := ⟨w.heap.size + 1, 2, none⟩) (by simp)).trans (cell_of_block (heap_new2 _ _ _) rfl)
    go_wp2_with fail
    go_ret
    exact ⟨by rw [hb]; rfl, hal.trans (b1.mono hal.size)⟩
  · have hb : (b == 0) = false := by rw [beq_eq_false_iff_ne]; exact hb0
    clear hb0
    go_enter Try.func42, Try.ntmps42
    go_wp2_with fail
    refine (HSEE.out _ (h.same hal) (hr.same hal) a ha).mono ?_
    rw [← HA.out]
    rintro e w1 ⟨rfl, b1⟩
    have hc : w1.cell? ⟨w.heap.size + 1, 2, none⟩ = some (.int .u64 b) := (b1.cell (p := ⟨w.heap.size + 1, 2, none⟩) (by simp)).trans (cell_of_block (heap_new2 _ _ _) rfl)
    have hc0 : w1.cell? ⟨w.heap.size, 0, none⟩ = some (.int .u64 own) := (b1.cell (p := ⟨w.heap.size, 0, none⟩) (by simp; omega)).trans (cell_of_block (block_alloc (heap_new1 _ _) _) rfl)
    have hc1 : w1.cell? ⟨w.heap.size, 1, none⟩ = some (.int .u64 xmax) := (b1.cell (p := ⟨w.heap.size, 1, none⟩) (by simp; omega)).trans (cell_of_block (block_alloc (heap_new1 _ _) _) rfl)
    have hc2 : w1.cell? ⟨w.heap.size, 2, none⟩ = some rv := (b1.cell (p := ⟨w.heap.size, 2, none⟩) (by simp; omega)).trans (cell_of_block (block_alloc (heap_new1 _ _) _) rfl)
    have b01 := hal.trans (b1.mono hal.size)
    go_wp2_with (go_at_call 41; refine (HSEE.out _ (h.same b01) (hr.same b01) b hb1).mono ?_; rw [← HB.out]; rintro e w2 ⟨rfl, b2⟩)
    go_ret
    exact ⟨by rw [hb]; rfl, b01.trans (b2.mono b01.size)⟩

/-- lapidaryref10.Dead. -/
theorem rdead_at (h : RefAt c k w p f L) (a b hz : Int) (ha : a < 18446744073709551616) (hb1 : b < 18446744073709551616) (hb0 : 0 ≤ b) :
    Calls Try.prog 40 #[.pointer (some ⟨p, 0, none⟩), tup a b, .int .u64 hz] w fun e w' => e = .returned (.bool (deadB f L a b hz)) ∧ Below w.heap.size w w' := by
  have hal : Below w.heap.size w (w.alloc (.cells #[.int .u64 0, .int .u64 a, .int .u64 b, .int .i64 0, .int .i64 0, .slice none 0 0] 76)) := (Below.refl w.heap.size w).alloc (Nat.le_refl _) _
  have hst := fun (w : World) (h : RefAt c k w p f L) x (hx : x < 18446744073709551616) => rstate_at h x hx
  have hv : deadB f L a b hz = ((((stt f L a : Nat) : Int) == 3) || (decide (0 < b) && decide (b < hz) && (((stt f L b : Nat) : Int) == 2))) := by
    unfold deadB
    have e1 : (stt f L a == 3) = (((stt f L a : Nat) : Int) == 3) := by rw [Bool.eq_iff_iff]; simp; omega
    have e2 : (stt f L b == 2) = (((stt f L b : Nat) : Int) == 2) := by rw [Bool.eq_iff_iff]; simp; omega
    have e3 : (b != 0) = decide (0 < b) := by rw [Bool.eq_iff_iff]; simp; omega
    rw [e1, e2, e3, Bool.and_assoc, Bool.and_assoc, Bool.and_comm (((stt f L b : Nat) : Int) == 2)]
  rw [hv]; clear hv
  unfold tup
  obtain ⟨sa, hsa⟩ : ∃ z, z = ((stt f L a : Nat) : Int) := ⟨_, rfl⟩
  obtain ⟨sb, hsb⟩ : ∃ z, z = ((stt f L b : Nat) : Int) := ⟨_, rfl⟩
  rw [← hsa, ← hsb]
  have HA := Lib.hid hsa; clear hsa
  have HB := Lib.hid hsb; clear hsb
  have HST := Lib.hid hst; clear hst
  by_cases e1 : sa = 3
  · have d1 : (sa == 3) = true := by rw [beq_iff_eq]; exact e1
    clear e1
    go_enter Try.func40, Try.ntmps40
    go_wp2_with (go_at_call 27; refine (HST.out _ (h.same hal) a ha).mono ?_; rw [← HA.out]; rintro e w1 ⟨rfl, n, rfl⟩)
    go_ret
    exact ⟨by rw [d1]; rfl, hal.trans below_drewN⟩
  have d1 : (sa == 3) = false := by rw [beq_eq_false_iff_ne]; exact e1
  clear e1
  by_cases e2 : 0 < b
  · have d2 : decide (0 < b) = true := by simpa using e2
    by_cases e3 : b < hz
    · have d3 : decide (b < hz) = true := by simpa using e3
      go_enter Try.func40, Try.ntmps40
      go_wp2_with fail
      refine (HST.out _ (h.same hal) a ha).mono ?_; rw [← HA.out]; rintro e w1 ⟨rfl, n, rfl⟩
      go_wp2_with fail
      refine (HST.out _ ((h.same hal).drewN n) b hb1).mono ?_; rw [← HB.out]; rintro e w1 ⟨rfl, n2, rfl⟩
      go_wp2_with fail
      go_ret
      exact ⟨by simp [d1, e2, e3], hal.trans below_drewN⟩
    · have d3 : decide (b < hz) = false := by simpa using e3
      go_enter Try.func40, Try.ntmps40
      go_wp2_with fail
      refine (HST.out _ (h.same hal) a ha).mono ?_; rw [← HA.out]; rintro e w1 ⟨rfl, n, rfl⟩
      go_wp2_with fail
      go_ret
      exact ⟨by simp [d1, d3], hal.trans below_drewN⟩
  · have d2 : decide (0 < b) = false := by simpa using e2
    go_enter Try.func40, Try.ntmps40
    go_wp2_with fail
    refine (HST.out _ (h.same hal) a ha).mono ?_; rw [← HA.out]; rintro e w1 ⟨rfl, n, rfl⟩
    go_wp2_with fail
    go_ret
    exact ⟨by simp [d1, d2], hal.trans below_drewN⟩

/-- lapidaryref10.Free. -/
theorem rfree_at (h : RefAt c k w p f L) {s : Snp} {rv : Value} (hr : Run w rv s.run) (a b : Int) (ha : a < 18446744073709551616) (hb1 : b < 18446744073709551616) :
    Calls Try.prog 44 #[.pointer (some ⟨p, 0, none⟩), s.ref rv, tup a b] w fun e w' => e = .returned (.int .i64 (freeE f L s a b)) ∧ Below w.heap.size w w' := by
  have hal : Below w.heap.size w ((w.alloc (.cells #[.int .u64 s.own, .int .u64 s.xmax, rv] 93)).alloc (.cells #[.int .u64 0, .int .u64 a, .int .u64 b, .int .i64 0, .int .i64 0, .slice none 0 0] 76)) :=
    ((Below.refl w.heap.size w).alloc (Nat.le_refl _) _).alloc (by simp) _
  have hvis : ∀ (w : World), RefAt c k w p f L → Run w rv s.run → Calls Try.prog 42 #[.pointer (some ⟨p, 0, none⟩), .agg #[.int .u64 s.own, .int .u64 s.xmax, rv], .agg #[.int .u64 0, .int .u64 a, .int .u64 b, .int .i64 0, .int .i64 0, .slice none 0 0]] w
      fun e w' => e = .returned (.bool (vis f L s a b)) ∧ Below w.heap.size w w' := fun w h hr => rvis_at h hr a b ha hb1
  have HV := Lib.hid hvis; clear hvis
  have hst := fun (w : World) (h : RefAt c k w p f L) x (hx : x < 18446744073709551616) => rstate_at h x hx
  have HST := Lib.hid hst; clear hst
  obtain ⟨vv, hvv⟩ : ∃ z, z = vis f L s a b := ⟨_, rfl⟩
  obtain ⟨sb, hsb⟩ : ∃ z, z = ((stt f L b : Nat) : Int) := ⟨_, rfl⟩
  have hE : freeE f L s a b = if b ≠ 0 ∧ b ≠ s.own ∧ sb ≠ 3 then 11 else if vv then 0 else 14 := by
    unfold freeE
    have e : stt f L b = 3 ↔ sb = 3 := by rw [hsb]; omega
    simp only [ne_eq, e, hvv]
  rw [hE]; clear hE
  unfold Snp.ref tup
  have HVV := Lib.hid hvv; clear hvv
  have HB := Lib.hid hsb; clear hsb
  obtain ⟨own, xmin, xmax, run⟩ := s
  simp only at hr hal HV ⊢
  have fin : ∀ (w1 : World) (o1 : Below w.heap.size w w1), Calls Try.prog 42 #[.pointer (some ⟨p, 0, none⟩), .agg #[.int .u64 own, .int .u64 xmax, rv], .agg #[.int .u64 0, .int .u64 a, .int .u64 b, .int .i64 0, .int .i64 0, .slice none 0 0]] w1
      fun e w' => e = .returned (.bool vv) ∧ Below w1.heap.size w1 w' := fun w1 o1 => by
    have := HV.out w1 (h.same o1) (hr.same o1)
    rw [← HVV.out] at this; exact this
  have HF := Lib.hid fin; clear fin
  by_cases e1 : b = 0
  · have d1 : (b != 0) = false := by rw [e1]; rfl
    have hc : ¬ (b ≠ 0 ∧ b ≠ own ∧ sb ≠ 3) := fun x => x.1 e1
    clear e1
    rw [if_neg hc]; clear hc
    cases vv
    all_goals
      go_enter Try.func44, Try.ntmps44
      go_wp2_with (go_at_call 42; refine (HF.out _ hal).mono ?_; rintro e w1 ⟨rfl, b1⟩)
      go_ret
      exact ⟨rfl, hal.trans (b1.mono hal.size)⟩
  have d1 : (b != 0) = true := by rw [bne_iff_ne]; exact e1
  by_cases e2 : b = own
  · have d2 : (b != own) = false := by rw [e2]; simp
    have hc : ¬ (b ≠ 0 ∧ b ≠ own ∧ sb ≠ 3) := fun x => x.2.1 e2
    clear e2 e1
    rw [if_neg hc]; clear hc
    cases vv
    all_goals
      go_enter Try.func44, Try.ntmps44
      go_wp2_with (go_at_call 42; refine (HF.out _ hal).mono ?_; rintro e w1 ⟨rfl, b1⟩)
      go_ret
      exact ⟨rfl, hal.trans (b1.mono hal.size)⟩
  have d2 : (b != own) = true := by rw [bne_iff_ne]; exact e2
  by_cases e3 : sb = 3
  · have d3 : (sb != 3) = false := by rw [e3]; rfl
    have hc : ¬ (b ≠ 0 ∧ b ≠ own ∧ sb ≠ 3) := fun x => x.2.2 e3
    clear e3 e2 e1
    rw [if_neg hc]; clear hc
    cases vv
    all_goals
      go_enter Try.func44, Try.ntmps44
      go_wp2_with (first
        | (go_at_call 27; refine (HST.out _ (h.same hal) b hb1).mono ?_; rw [← HB.out]; rintro e w1 ⟨rfl, n, rfl⟩)
        | (go_at_call 42; refine (HF.out _ (hal.trans below_drewN)).mono ?_; rintro e w1 ⟨rfl, b1⟩))
      go_ret
      exact ⟨rfl, (hal.trans below_drewN).trans (b1.mono (by have := hal.size; simpa using this))⟩
  · have d3 : (sb != 3) = true := by rw [bne_iff_ne]; exact e3
    rw [if_pos ⟨e1, e2, e3⟩]
    clear e1 e2 e3
    go_enter Try.func44, Try.ntmps44
    go_wp2_with (go_at_call 27; refine (HST.out _ (h.same hal) b hb1).mono ?_; rw [← HB.out]; rintro e w1 ⟨rfl, n, rfl⟩)
    go_ret
    exact ⟨rfl, hal.trans below_drewN⟩

def lows (x0 : Int) (l : List Int) : Int := l.foldl (fun a y => if y < a then y else a) x0
theorem lows_snoc (x0 : Int) (l : List Int) (y : Int) : lows x0 (l ++ [y]) = if y < lows x0 l then y else lows x0 l := by
  unfold lows; rw [List.foldl_append]; rfl
theorem lows_least (nx x0 : Int) (r : List Int) : lows x0 (x0 :: r) = least nx (x0 :: r) := by
  unfold lows least
  rw [List.foldl_cons, if_neg (Int.lt_irrefl _)]

set_option maxHeartbeats 1000000 in
set_option maxRecDepth 100000 in
/-- lapidaryref10.Horizon. -/
theorem rhorizon_at {k' : Nat} (h : RefAt c k w p f L) {sv : Value} {l : List (Snp × Value)} (hs : RSnaps c k' w sv l) (hmin : ∀ x ∈ l, x.1.xmin = least2 x.1.xmax x.1.run) :
    Calls Try.prog 39 #[.pointer (some ⟨p, 0, none⟩), sv] w fun e w' => e = .returned (.int .u64 (least (f + L.length) (l.map (·.1.xmin)))) ∧ Below w.heap.size w w' := by
  have hs1 := hs.1
  obtain ⟨a, cap, rfl⟩ := ownsRow_slice hs1
  have hl := hs.2.2.2
  clear hs1
  by_cases h0 : l = []
  · subst h0
    have hq : ((([] : List (Snp × Value)).length : Nat) : Int) = 0 := rfl
    go_enter Try.func39, Try.ntmps39
    go_wp2_with (go_at_call 28; refine (rnext_at h).mono ?_; rintro e w0 ⟨rfl, n0, rfl⟩)
    go_ret
    exact ⟨rfl, below_drewN⟩
  · have hlen : 0 < l.length := List.length_pos_iff.2 h0
    have hq : (((l.length : Nat) : Int) == 0) = false := by rw [beq_eq_false_iff_ne]; omega
    obtain ⟨g, cp, hg, c0, c1, ⟨ra, rc, c2, hrv⟩, hrun, _⟩ := hs.at hlen
    simp only [Value.slice.injEq] at hg
    obtain ⟨rfl, _, rfl⟩ := hg
    have hm0 := hmin _ (List.getElem_mem hlen)
    obtain ⟨B, hB⟩ : ∃ B, B = least (f + L.length) (l.map (·.1.xmin)) := ⟨_, rfl⟩
    rw [← hB]
    obtain ⟨x0, hx0⟩ : ∃ x0, x0 = l[0].1.xmin := ⟨_, rfl⟩
    have hBl : B = lows x0 (l.map (·.1.xmin)) := by
      rw [hB]
      cases l with
      | nil => exact absurd rfl h0
      | cons z r => rw [List.map_cons, hx0]; exact (lows_least _ _ _).symm
    have HBL := Lib.hid hBl
    rw [← hx0] at hm0
    obtain ⟨z0, hz0⟩ : ∃ z, z = l[0] := ⟨_, rfl⟩
    rw [← hz0] at c0 c1 c2 hrv hrun hm0
    have hc0 := rleast_at (w := w) hrun
    rw [← hm0, hrv] at hc0
    unfold Snp.ref at hc0
    have HC0 := Lib.hid hc0
    clear hBl hx0 hB hc0 hm0 hrun hrv h0 hz0
    go_enter Try.func39, Try.ntmps39
    go_wp2_with fail
    refine HC0.out.mono ?_
    rintro e w1 ⟨rfl, b1⟩
    clear HC0
    go_wp2_with fail
    go_loopw [5, 19] (fun v i wr => ∃ n : Nat, n ≤ l.length ∧ i = .int .i64 n ∧ v = .int .u64 (lows x0 ((l.take n).map (·.1.xmin))) ∧ Below w.heap.size w wr) (fun _ i _ => l.length - (intOf i).toNat)
    case atStart => exact ⟨0, Nat.zero_le _, rfl, rfl, b1⟩
    case round =>
      obtain ⟨n, hn, rfl, rfl, hB⟩ := hrel
      have hz := hB.size
      by_cases hlt : n < l.length
      · obtain ⟨g', cp', hg, e0, e1, ⟨ra', rc', e2, hrv⟩, hrun, _⟩ := (hs.same hB).at hlt
        simp only [Value.slice.injEq, Option.some.injEq, Addr.mk.injEq] at hg
        obtain ⟨⟨rfl, _⟩, _, rfl⟩ := hg
        have hst : (l.take (n + 1)).map (·.1.xmin) = (l.take n).map (·.1.xmin) ++ [l[n].1.xmin] := by rw [List.take_succ_eq_append_getElem hlt, List.map_append]; rfl
        have hsn := lows_snoc x0 ((l.take n).map (·.1.xmin)) l[n].1.xmin
        rw [← hst] at hsn
        have hmn := hmin _ (List.getElem_mem hlt)
        obtain ⟨z, hzz⟩ : ∃ z, z = l[n] := ⟨_, rfl⟩
        rw [← hzz] at e0 e1 e2 hrv hrun hmn hsn
        obtain ⟨now, hnow⟩ : ∃ z, z = lows x0 ((l.take n).map (·.1.xmin)) := ⟨_, rfl⟩
        rw [← hnow] at hsn ⊢
        have hca : ∀ w', Below wr.heap.size wr w' → Calls Try.prog 61 #[.agg #[.int .u64 z.1.own, .int .u64 z.1.xmax, .slice ra' z.1.run.length rc']] w' fun e w'' => e = .returned (.int .u64 z.1.xmin) ∧ Below w'.heap.size w' w'' := fun w' hb => by
          have := rleast_at (w := w') (hrun.same hb)
          rw [← hmn, hrv] at this
          exact this
        have HCA := Lib.hid hca
        have hal : Below wr.heap.size wr (wr.alloc (.cells #[.int .u64 z.1.own, .int .u64 z.1.xmax, .slice ra' z.1.run.length rc'] 93)) := (Below.refl _ _).alloc (Nat.le_refl _) _
        clear hca hmn hrun hrv hst hnow hzz
        by_cases hlt2 : z.1.xmin < now
        · rw [if_pos hlt2] at hsn
          have HS := Lib.hid hsn; clear hsn
          go_wp2_with fail
          refine (HCA.out _ hal).mono ?_
          rintro e w2 ⟨rfl, b2⟩
          have q0 := keep1 b2 (cell_of_block (i := 0) (heap_new1 wr (.cells #[.int .u64 z.1.own, .int .u64 z.1.xmax, .slice ra' z.1.run.length rc'] 93)) rfl)
          have q1 := keep1 b2 (cell_of_block (i := 1) (heap_new1 wr (.cells #[.int .u64 z.1.own, .int .u64 z.1.xmax, .slice ra' z.1.run.length rc'] 93)) rfl)
          have q2 := keep1 b2 (cell_of_block (i := 2) (heap_new1 wr (.cells #[.int .u64 z.1.own, .int .u64 z.1.xmax, .slice ra' z.1.run.length rc'] 93)) rfl)
          have b02 := hal.trans (b2.mono hal.size)
          go_wp2_with (go_at_call 61; refine (HCA.out _ b02).mono ?_; rintro e w3 ⟨rfl, b3⟩)
          go_roundw
          case rel => exact ⟨n + 1, by omega, by go_num, by rw [HS.out], hB.trans ((b02.trans (b3.mono b02.size)).mono hz)⟩
          case measure => simp [intOf]; omega
        · rw [if_neg hlt2] at hsn
          have HS := Lib.hid hsn; clear hsn
          have hd : decide (z.1.xmin < now) = false := by simpa using hlt2
          go_wp2_with (go_at_call 61; refine (HCA.out _ hal).mono ?_; rintro e w2 ⟨rfl, b2⟩)
          go_roundw
          case rel => exact ⟨n + 1, by omega, by go_num, by rw [HS.out], hB.trans ((hal.trans (b2.mono hal.size)).mono hz)⟩
          case measure => simp [intOf]; omega
      · have hnl : n = l.length := by omega
        subst hnl
        go_wp2_with fail
        go_ret
        exact ⟨by rw [HBL.out, List.take_length]; rfl, hB⟩
end
end Go.Proofs.Ytdohkjpapmkhjaa
