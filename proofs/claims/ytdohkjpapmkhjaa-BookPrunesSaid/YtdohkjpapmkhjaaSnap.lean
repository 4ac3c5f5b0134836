/-
  SNAPSHOTS (package snap): what Take, Sees, Visible, Free, Horizon, Dead come to, of any log and any snapshot in memory.
-/
import Derived.Test.YtdohkjpapmkhjaaLawNine
namespace Go.Proofs.Ytdohkjpapmkhjaa
open Go.RowKit

/-- A snapshot, plainly. -/
structure Snp where
  own : Int
  xmin : Int
  xmax : Int
  run : List Int
def Snp.val (s : Snp) (rv : Value) : Value := .agg #[.int .u64 s.own, .int .u64 s.xmin, .int .u64 s.xmax, rv]
/-- rv reads as the list. -/
def Run (w : World) (rv : Value) (l : List Int) : Prop := w.ownsRow 0 23 1 rv l.length (u64s l) ∧ l.length ≤ 1099511627776

def sees (f : Int) (L : List Nat) (s : Snp) (x : Int) : Bool := x == s.own || (decide (x < s.xmax) && !s.run.contains x && stt f L x == 2)
def tup (xmin xmax : Int) : Value := .agg #[.int .u64 0, .int .u64 xmin, .int .u64 xmax, .int .i64 0, .int .i64 0, .slice none 0 0]
def vis (f : Int) (L : List Nat) (s : Snp) (a b : Int) : Bool := sees f L s a && (b == 0 || !sees f L s b)
def freeE (f : Int) (L : List Nat) (s : Snp) (a b : Int) : Int := if b ≠ 0 ∧ b ≠ s.own ∧ stt f L b ≠ 3 then 11 else if vis f L s a b then 0 else 14
def deadB (f : Int) (L : List Nat) (a b h : Int) : Bool := stt f L a == 3 || (b != 0 && stt f L b == 2 && decide (b < h))

section
variable {c : Nat → Nat} {k p : Nat} {w w' : World} {f : Int} {L : List Nat}

theorem Run.upd {S : Nat → Prop} {rv : Value} {l : List Int} (h : Run w rv l) (u : Upd S w w') (hs : ∀ b, rv.ownBlock = some b → ¬ S b) : Run w' rv l := ⟨ownsRow_upd h.1 u hs, h.2⟩
theorem Run.same {rv : Value} {l : List Int} (h : Run w rv l) (u : Below w.heap.size w w') : Run w' rv l := h.upd (S := fun _ => False) (Upd.same u) (fun _ _ x => x)
theorem Run.drewN {rv : Value} {l : List Int} (h : Run w rv l) (n : Nat) : Run (w.drewN n) rv l := h.upd (S := fun _ => False) (Upd.of_drewN n) (fun _ _ x => x)
theorem Run.alloc {rv : Value} {l : List Int} (h : Run w rv l) (o : Obj) : Run (w.alloc o) rv l := h.same ((Below.refl _ _).alloc (Nat.le_refl _) o)

theorem heap_new1 (w : World) (o : Obj) : (w.alloc o).heap[w.heap.size]? = some o := heap_alloc_new w o
theorem heap_new2 (w : World) (o o' : Obj) : ((w.alloc o).alloc o').heap[w.heap.size + 1]? = some o' := by
  have h := heap_alloc_new (w.alloc o) o'
  have e : (w.alloc o).heap.size = w.heap.size + 1 := by simp
  rw [e] at h; exact h

/-- Where the first is, or -1. -/
def idx : List Int → Int → Nat → Int
  | [], _, _ => -1
  | y :: l, x, i => if x = y then (i : Int) else idx l x (i + 1)
theorem idx_ge (l : List Int) (x : Int) (i : Nat) : (0 ≤ idx l x i) ↔ x ∈ l := by
  induction l generalizing i with
  | nil => simp [idx]
  | cons y l ih =>
    unfold idx
    by_cases e : x = y
    · simp [e]
    · rw [if_neg e, ih]; simp [e]
theorem idx_drop (l : List Int) (x : Int) (n : Nat) (h : n < l.length) : idx (l.drop n) x n = if x = l[n] then (n : Int) else idx (l.drop (n + 1)) x (n + 1) := by
  rw [List.drop_eq_getElem_cons h]; rfl

/-- slices.Index, of uint64s. -/
theorem index_run {rv : Value} {l : List Int} (h : Run w rv l) (x : Int) :
    Calls Try.prog 79 #[rv, .int .u64 x] w fun e w' => e = .returned (.int .i64 (idx l x 0)) ∧ w' = w := by
  obtain ⟨h, hl⟩ := h
  obtain ⟨a, cap, rfl⟩ := ownsRow_slice h
  go_enter Try.func79, Try.ntmps79
  go_wp2_with fail
  go_loop [8] (fun i => ∃ n : Nat, n ≤ l.length ∧ i = .int .i64 n ∧ idx l x 0 = idx (l.drop n) x n) (fun i => l.length - (intOf i).toNat)
  case atStart => exact ⟨0, Nat.zero_le _, rfl, rfl⟩
  case round =>
    obtain ⟨n, hn, rfl, hx⟩ := hrel
    by_cases hlt : n < l.length
    · have hj : (u64s l)[n]? = some (.int .u64 (l[n])) := by simp [u64s, hlt]
      obtain ⟨g, q, e1, d1, _, _, _⟩ := ownsRow_cell1 h hj
      simp only [Value.slice.injEq] at e1
      obtain ⟨rfl, _, rfl⟩ := e1
      have hd := idx_drop l x n hlt
      clear hj
      obtain ⟨y, hy⟩ : ∃ y, y = l[n] := ⟨_, rfl⟩
      rw [← hy] at d1 hd
      clear hy
      have HX := Lib.hid hx; clear hx
      by_cases e : x = y
      · rw [if_pos e] at hd
        have hb : (x == y) = true := by rw [beq_iff_eq]; exact e
        have HD := Lib.hid hd; clear hd e
        go_wp2_with fail
        go_ret
        exact ⟨by rw [HX.out, HD.out]; rfl, rfl⟩
      · rw [if_neg e] at hd
        have hb : (x == y) = false := by rw [beq_eq_false_iff_ne]; exact e
        have HD := Lib.hid hd; clear hd e
        go_wp2_with fail
        go_round
        case rel => exact ⟨n + 1, by omega, by go_num, HX.out.trans HD.out⟩
        case measure => simp [intOf]; omega
    · have hnl : n = l.length := by omega
      subst hnl
      rw [List.drop_length] at hx
      have HX := Lib.hid hx; clear hx
      go_wp2_with fail
      go_ret
      exact ⟨by rw [HX.out]; rfl, rfl⟩
theorem contains_run {rv : Value} {l : List Int} (h : Run w rv l) (x : Int) :
    Calls Try.prog 62 #[rv, .int .u64 x] w fun e w' => e = .returned (.bool (l.contains x)) ∧ w' = w := by
  have e : l.contains x = decide (0 ≤ idx l x 0) := by
    rw [List.contains_eq_mem, decide_eq_decide, idx_ge]
  rw [e]
  obtain ⟨i, hi⟩ : ∃ i, i = idx l x 0 := ⟨_, rfl⟩
  have hc := index_run h x
  rw [← hi] at hc ⊢
  have HC := Lib.hid hc; clear hc hi e
  go_enter Try.func62, Try.ntmps62
  go_wp2_with (go_at_call 79; refine HC.out.mono ?_; rintro e w1 ⟨rfl, rfl⟩)
  go_ret
  exact ⟨rfl, rfl⟩

/-- snap.Sees. -/
theorem sees_at (h : LogAt c k w p f L) {s : Snp} {rv : Value} (hr : Run w rv s.run) (x : Int) :
    Calls Try.prog 33 #[.pointer (some ⟨p, 0, none⟩), s.val rv, .int .u64 x] w fun e w' => e = .returned (.bool (sees f L s x)) ∧ Below w.heap.size w w' := by
  obtain ⟨own, xmin, xmax, run⟩ := s
  unfold Snp.val
  simp only at hr ⊢
  have hal := (Below.refl w.heap.size w).alloc (Nat.le_refl _) (.cells #[.int .u64 own, .int .u64 xmin, .int .u64 xmax, rv] 66)
  by_cases e1 : x = own
  · have hs : sees f L ⟨own, xmin, xmax, run⟩ x = true := by simp [sees, e1]
    have hb : (x == own) = true := by rw [beq_iff_eq]; exact e1
    rw [hs]; clear hs e1
    go_enter Try.func33, Try.ntmps33
    go_wp2_with fail
    go_ret
    exact ⟨rfl, hal⟩
  have hb : (x == own) = false := by rw [beq_eq_false_iff_ne]; exact e1
  by_cases e2 : x < xmax
  · by_cases e3 : run.contains x = true
    · have hs : sees f L ⟨own, xmin, xmax, run⟩ x = false := by simp only [sees, hb, e3]; simp
      rw [hs]; clear hs e1
      go_enter Try.func33, Try.ntmps33
      go_wp2_with (go_at_call 62; refine (contains_run (hr.alloc _) x).mono ?_; rw [e3]; rintro e w1 ⟨rfl, rfl⟩)
      go_ret
      exact ⟨rfl, hal⟩
    · have e3 : run.contains x = false := by simpa using e3
      have hs : sees f L ⟨own, xmin, xmax, run⟩ x = (((stt f L x : Nat) : Int) == 2) := by
        unfold sees
        simp only [hb, e2, e3, Bool.false_or, decide_true, Bool.not_false, Bool.true_and]
        rw [Bool.eq_iff_iff]; simp; omega
      rw [hs]; clear hs e1
      go_enter Try.func33, Try.ntmps33
      go_wp2_with (first
        | (go_at_call 62; refine (contains_run (hr.alloc _) x).mono ?_; rw [e3]; rintro e w1 ⟨rfl, rfl⟩)
        | (go_at_call 21; refine (state_at (h.same hal) x).mono ?_; rintro e w1 ⟨rfl, n, rfl⟩))
      go_ret
      exact ⟨rfl, hal.trans below_drewN⟩
  · have hs : sees f L ⟨own, xmin, xmax, run⟩ x = false := by simp [sees, e1, e2]
    have hd : decide (x < xmax) = false := by simpa using e2
    rw [hs]; clear hs e1
    go_enter Try.func33, Try.ntmps33
    go_wp2_with fail
    go_ret
    exact ⟨rfl, hal⟩

theorem tuple_at (a b : Int) (w : World) : Calls Try.prog 34 #[.int .u64 a, .int .u64 b] w fun e w' => e = .returned (tup a b) ∧ Below w.heap.size w w' := by
  go_enter Try.func34, Try.ntmps34
  go_wp2_with fail
  exact bodyPost_ret (v := tup a b) (by simp [results, Try.results34, go_sem, tup]) rfl ⟨rfl, (Below.refl _ _).alloc (Nat.le_refl _) _⟩

/-- snap.Visible. -/
theorem vis_at (h : LogAt c k w p f L) {s : Snp} {rv : Value} (hr : Run w rv s.run) (a b : Int) :
    Calls Try.prog 35 #[.pointer (some ⟨p, 0, none⟩), s.val rv, tup a b] w fun e w' => e = .returned (.bool (vis f L s a b)) ∧ Below w.heap.size w w' := by
  have hr0 := hr
  have hsee : ∀ (w : World), LogAt c k w p f L → Run w rv s.run → ∀ x, Calls Try.prog 33 #[.pointer (some ⟨p, 0, none⟩), s.val rv, .int .u64 x] w fun e w' => e = .returned (.bool (sees f L s x)) ∧ Below w.heap.size w w' := fun w h hr x => sees_at h hr x
  have HSEE := Lib.hid hsee; clear hsee
  have hv : vis f L s a b = (sees f L s a && (b == 0 || !sees f L s b)) := rfl
  obtain ⟨sa, hsa⟩ : ∃ z, z = sees f L s a := ⟨_, rfl⟩
  obtain ⟨sb, hsb⟩ : ∃ z, z = sees f L s b := ⟨_, rfl⟩
  rw [hv, ← hsa, ← hsb]
  have HA := Lib.hid hsa; clear hsa
  have HB := Lib.hid hsb; clear hsb hv
  obtain ⟨own, xmin, xmax, run⟩ := s
  unfold Snp.val tup at *
  simp only at hr HSEE ⊢
  have hal : Below w.heap.size w ((w.alloc (.cells #[.int .u64 own, .int .u64 xmin, .int .u64 xmax, rv] 66)).alloc (.cells #[.int .u64 0, .int .u64 a, .int .u64 b, .int .i64 0, .int .i64 0, .slice none 0 0] 76)) :=
    ((Below.refl w.heap.size w).alloc (Nat.le_refl _) _).alloc (by simp) _
  cases sa
  · go_enter Try.func35, Try.ntmps35
    go_wp2_with (go_at_call 33; refine (HSEE.out _ (h.same hal) (hr.same hal) a).mono ?_; rw [← HA.out]; rintro e w1 ⟨rfl, b1⟩)
    go_ret
    exact ⟨rfl, hal.trans (b1.mono hal.size)⟩
  by_cases hb0 : b = 0
  · have hb : (b == 0) = true := by rw [beq_iff_eq]; exact hb0
    clear hb0
    go_enter Try.func35, Try.ntmps35
    go_wp2_with fail
    refine (HSEE.out _ (h.same hal) (hr.same hal) a).mono ?_
    rw [← HA.out]
    rintro e w1 ⟨rfl, b1⟩
    have hc : w1.cell? ⟨w.heap.size + 1, 2, none⟩ = some (.int .u64 b) := (b1.cell (p := ⟨w.heap.size + 1, 2, none⟩) (by simp)).trans (cell_of_block (heap_new2 _ _ _) rfl)
    go_wp2_with fail
    go_ret
    exact ⟨by rw [hb]; rfl, hal.trans (b1.mono hal.size)⟩
  · have hb : (b == 0) = false := by rw [beq_eq_false_iff_ne]; exact hb0
    clear hb0
    go_enter Try.func35, Try.ntmps35
    go_wp2_with fail
    refine (HSEE.out _ (h.same hal) (hr.same hal) a).mono ?_
    rw [← HA.out]
    rintro e w1 ⟨rfl, b1⟩
    have hc : w1.cell? ⟨w.heap.size + 1, 2, none⟩ = some (.int .u64 b) := (b1.cell (p := ⟨w.heap.size + 1, 2, none⟩) (by simp)).trans (cell_of_block (heap_new2 _ _ _) rfl)
    have hc0 : w1.cell? ⟨w.heap.size, 0, none⟩ = some (.int .u64 own) := (b1.cell (p := ⟨w.heap.size, 0, none⟩) (by simp; omega)).trans (cell_of_block (block_alloc (heap_new1 _ _) _) rfl)
    have hc1 : w1.cell? ⟨w.heap.size, 1, none⟩ = some (.int .u64 xmin) := (b1.cell (p := ⟨w.heap.size, 1, none⟩) (by simp; omega)).trans (cell_of_block (block_alloc (heap_new1 _ _) _) rfl)
    have hc2 : w1.cell? ⟨w.heap.size, 2, none⟩ = some (.int .u64 xmax) := (b1.cell (p := ⟨w.heap.size, 2, none⟩) (by simp; omega)).trans (cell_of_block (block_alloc (heap_new1 _ _) _) rfl)
    have hc3 : w1.cell? ⟨w.heap.size, 3, none⟩ = some rv := (b1.cell (p := ⟨w.heap.size, 3, none⟩) (by simp; omega)).trans (cell_of_block (block_alloc (heap_new1 _ _) _) rfl)
    have b01 := hal.trans (b1.mono hal.size)
    go_wp2_with (go_at_call 33; refine (HSEE.out _ (h.same b01) (hr.same b01) b).mono ?_; rw [← HB.out]; rintro e w2 ⟨rfl, b2⟩)
    go_ret
    exact ⟨by rw [hb]; rfl, b01.trans (b2.mono b01.size)⟩

/-- snap.Dead. -/
theorem dead_at (h : LogAt c k w p f L) (a b hz : Int) :
    Calls Try.prog 38 #[.pointer (some ⟨p, 0, none⟩), tup a b, .int .u64 hz] w fun e w' => e = .returned (.bool (deadB f L a b hz)) ∧ Below w.heap.size w w' := by
  have hal : Below w.heap.size w (w.alloc (.cells #[.int .u64 0, .int .u64 a, .int .u64 b, .int .i64 0, .int .i64 0, .slice none 0 0] 76)) := (Below.refl w.heap.size w).alloc (Nat.le_refl _) _
  have hst := fun (w : World) (h : LogAt c k w p f L) x => state_at h x
  have hv : deadB f L a b hz = ((((stt f L a : Nat) : Int) == 3) || (b != 0 && (((stt f L b : Nat) : Int) == 2) && decide (b < hz))) := by
    unfold deadB
    have e1 : (stt f L a == 3) = (((stt f L a : Nat) : Int) == 3) := by rw [Bool.eq_iff_iff]; simp; omega
    have e2 : (stt f L b == 2) = (((stt f L b : Nat) : Int) == 2) := by rw [Bool.eq_iff_iff]; simp; omega
    rw [e1, e2]
  rw [hv]; clear hv
  unfold tup
  obtain ⟨sa, hsa⟩ : ∃ z, z = ((stt f L a : Nat) : Int) := ⟨_, rfl⟩
  obtain ⟨sb, hsb⟩ : ∃ z, z = ((stt f L b : Nat) : Int) := ⟨_, rfl⟩
  rw [← hsa, ← hsb]
  have HA := Lib.hid hsa; clear hsa
  have HB := Lib.hid hsb; clear hsb
  have HST := Lib.hid hst; clear hst
  by_cases e1 : sa = 3
  · have d1 : (sa == 3) = true := by rw [beq_iff_eq]; exact e1
    clear e1
    go_enter Try.func38, Try.ntmps38
    go_wp2_with (go_at_call 21; refine (HST.out _ (h.same hal) a).mono ?_; rw [← HA.out]; rintro e w1 ⟨rfl, n, rfl⟩)
    go_ret
    exact ⟨by rw [d1]; rfl, hal.trans below_drewN⟩
  have d1 : (sa == 3) = false := by rw [beq_eq_false_iff_ne]; exact e1
  clear e1
  by_cases e2 : b = 0
  · have d2 : (b != 0) = false := by rw [e2]; rfl
    clear e2
    go_enter Try.func38, Try.ntmps38
    go_wp2_with (go_at_call 21; refine (HST.out _ (h.same hal) a).mono ?_; rw [← HA.out]; rintro e w1 ⟨rfl, n, rfl⟩)
    go_ret
    exact ⟨by rw [d1, d2]; rfl, hal.trans below_drewN⟩
  have d2 : (b != 0) = true := by rw [bne_iff_ne]; exact e2
  clear e2
  by_cases e3 : sb = 2
  · have d3 : (sb == 2) = true := by rw [beq_iff_eq]; exact e3
    clear e3
    go_enter Try.func38, Try.ntmps38
    go_wp2_with fail
    refine (HST.out _ (h.same hal) a).mono ?_; rw [← HA.out]; rintro e w1 ⟨rfl, n, rfl⟩
    go_wp2_with fail
    refine (HST.out _ ((h.same hal).drewN n) b).mono ?_; rw [← HB.out]; rintro e w1 ⟨rfl, n2, rfl⟩
    go_wp2_with fail
    all_goals
      go_ret
      exact ⟨by simp [d1, d2, d3], hal.trans below_drewN⟩
  · have d3 : (sb == 2) = false := by rw [beq_eq_false_iff_ne]; exact e3
    clear e3
    go_enter Try.func38, Try.ntmps38
    go_wp2_with fail
    refine (HST.out _ (h.same hal) a).mono ?_; rw [← HA.out]; rintro e w1 ⟨rfl, n, rfl⟩
    go_wp2_with fail
    refine (HST.out _ ((h.same hal).drewN n) b).mono ?_; rw [← HB.out]; rintro e w1 ⟨rfl, n2, rfl⟩
    go_wp2_with fail
    go_ret
    exact ⟨by simp [d1, d2, d3], hal.trans below_drewN⟩

/-- snap.Free. -/
theorem free_at (h : LogAt c k w p f L) {s : Snp} {rv : Value} (hr : Run w rv s.run) (a b : Int) :
    Calls Try.prog 43 #[.pointer (some ⟨p, 0, none⟩), s.val rv, tup a b] w fun e w' => e = .returned (.int .i64 (freeE f L s a b)) ∧ Below w.heap.size w w' := by
  have hal : Below w.heap.size w ((w.alloc (.cells #[.int .u64 s.own, .int .u64 s.xmin, .int .u64 s.xmax, rv] 66)).alloc (.cells #[.int .u64 0, .int .u64 a, .int .u64 b, .int .i64 0, .int .i64 0, .slice none 0 0] 76)) :=
    ((Below.refl w.heap.size w).alloc (Nat.le_refl _) _).alloc (by simp) _
  have hvis : ∀ (w : World), LogAt c k w p f L → Run w rv s.run → Calls Try.prog 35 #[.pointer (some ⟨p, 0, none⟩), .agg #[.int .u64 s.own, .int .u64 s.xmin, .int .u64 s.xmax, rv], .agg #[.int .u64 0, .int .u64 a, .int .u64 b, .int .i64 0, .int .i64 0, .slice none 0 0]] w
      fun e w' => e = .returned (.bool (vis f L s a b)) ∧ Below w.heap.size w w' := fun w h hr => vis_at h hr a b
  have HV := Lib.hid hvis; clear hvis
  have hst := fun (w : World) (h : LogAt c k w p f L) x => state_at h x
  have HST := Lib.hid hst; clear hst
  obtain ⟨vv, hvv⟩ : ∃ z, z = vis f L s a b := ⟨_, rfl⟩
  obtain ⟨sb, hsb⟩ : ∃ z, z = ((stt f L b : Nat) : Int) := ⟨_, rfl⟩
  have hE : freeE f L s a b = if b ≠ 0 ∧ b ≠ s.own ∧ sb ≠ 3 then 11 else if vv then 0 else 14 := by
    unfold freeE
    have e : stt f L b = 3 ↔ sb = 3 := by rw [hsb]; omega
    simp only [ne_eq, e, hvv]
  rw [hE]; clear hE
  unfold Snp.val tup
  have HVV := Lib.hid hvv; clear hvv
  have HB := Lib.hid hsb; clear hsb
  obtain ⟨own, xmin, xmax, run⟩ := s
  simp only at hr hal HV ⊢
  have fin : ∀ (w1 : World) (o1 : Below w.heap.size w w1), (b = 0 ∨ b = own ∨ sb = 3) → Calls Try.prog 35 #[.pointer (some ⟨p, 0, none⟩), .agg #[.int .u64 own, .int .u64 xmin, .int .u64 xmax, rv], .agg #[.int .u64 0, .int .u64 a, .int .u64 b, .int .i64 0, .int .i64 0, .slice none 0 0]] w1
      fun e w' => e = .returned (.bool vv) ∧ Below w1.heap.size w1 w' := fun w1 o1 _ => by
    have := HV.out w1 (h.same o1) (hr.same o1)
    rw [← HVV.out] at this; exact this
  have HF := Lib.hid fin; clear fin
  by_cases e1 : b = 0
  · have d1 : (b != 0) = false := by rw [e1]; rfl
    have hc : ¬ (b ≠ 0 ∧ b ≠ own ∧ sb ≠ 3) := fun x => x.1 e1
    have e1' := Lib.hid e1; clear e1
    rw [if_neg hc]; clear hc
    cases vv
    all_goals
      go_enter Try.func43, Try.ntmps43
      go_wp2_with (go_at_call 35; refine (HF.out _ hal (.inl e1'.out)).mono ?_; rintro e w1 ⟨rfl, b1⟩)
      go_ret
      exact ⟨rfl, hal.trans (b1.mono hal.size)⟩
  have d1 : (b != 0) = true := by rw [bne_iff_ne]; exact e1
  by_cases e2 : b = own
  · have d2 : (b != own) = false := by rw [e2]; simp
    have hc : ¬ (b ≠ 0 ∧ b ≠ own ∧ sb ≠ 3) := fun x => x.2.1 e2
    have e2' := Lib.hid e2; clear e2 e1
    rw [if_neg hc]; clear hc
    cases vv
    all_goals
      go_enter Try.func43, Try.ntmps43
      go_wp2_with (go_at_call 35; refine (HF.out _ hal (.inr (.inl e2'.out))).mono ?_; rintro e w1 ⟨rfl, b1⟩)
      go_ret
      exact ⟨rfl, hal.trans (b1.mono hal.size)⟩
  have d2 : (b != own) = true := by rw [bne_iff_ne]; exact e2
  by_cases e3 : sb = 3
  · have d3 : (sb != 3) = false := by rw [e3]; rfl
    have hc : ¬ (b ≠ 0 ∧ b ≠ own ∧ sb ≠ 3) := fun x => x.2.2 e3
    have e3' := Lib.hid e3; clear e3 e2 e1
    rw [if_neg hc]; clear hc
    cases vv
    all_goals
      go_enter Try.func43, Try.ntmps43
      go_wp2_with (first
        | (go_at_call 21; refine (HST.out _ (h.same hal) b).mono ?_; rw [← HB.out]; rintro e w1 ⟨rfl, n, rfl⟩)
        | (go_at_call 35; refine (HF.out _ (hal.trans below_drewN) (.inr (.inr e3'.out))).mono ?_; rintro e w1 ⟨rfl, b1⟩))
      go_ret
      exact ⟨rfl, (hal.trans below_drewN).trans (b1.mono (by have := hal.size; simpa using this))⟩
  · have d3 : (sb != 3) = true := by rw [bne_iff_ne]; exact e3
    rw [if_pos ⟨e1, e2, e3⟩]
    clear e1 e2 e3
    go_enter Try.func43, Try.ntmps43
    go_wp2_with (go_at_call 21; refine (HST.out _ (h.same hal) b).mono ?_; rw [← HB.out]; rintro e w1 ⟨rfl, n, rfl⟩)
    go_ret
    exact ⟨rfl, hal.trans below_drewN⟩

/-! ### slices of snapshots -/
def snapCells (x : Snp × Value) : List Value := [.int .u64 x.1.own, .int .u64 x.1.xmin, .int .u64 x.1.xmax, x.2]
/-- sv holds the snapshots l, whose lists are k's by c. -/
def Snaps (c : Nat → Nat) (k : Nat) (w : World) (sv : Value) (l : List (Snp × Value)) : Prop :=
  w.ownsRow 0 66 4 sv l.length (l.flatMap snapCells) ∧ (∀ g, sv.ownBlock = some g → c g = k) ∧ (∀ x ∈ l, Run w x.2 x.1.run ∧ ∀ g, x.2.ownBlock = some g → c g = k) ∧ l.length ≤ 1099511627776

theorem Snaps.upd {S : Nat → Prop} {sv : Value} {l : List (Snp × Value)} (h : Snaps c k w sv l) (u : Upd S w w') (hs : ∀ b, c b = k → ¬ S b) : Snaps c k w' sv l := by
  obtain ⟨h1, h2, h3, h4⟩ := h
  exact ⟨ownsRow_upd h1 u (fun b hb => hs b (h2 b hb)), h2, fun x hx => ⟨(h3 x hx).1.upd u (fun b hb => hs b ((h3 x hx).2 b hb)), (h3 x hx).2⟩, h4⟩
theorem Snaps.same {sv : Value} {l : List (Snp × Value)} (h : Snaps c k w sv l) (u : Below w.heap.size w w') : Snaps c k w' sv l := h.upd (S := fun _ => False) (Upd.same u) (fun _ _ x => x)
theorem Snaps.drewN {sv : Value} {l : List (Snp × Value)} (h : Snaps c k w sv l) (n : Nat) : Snaps c k (w.drewN n) sv l := h.upd (S := fun _ => False) (Upd.of_drewN n) (fun _ _ x => x)
theorem Run.lt {rv : Value} {l : List Int} (h : Run w rv l) : ∀ g, rv.ownBlock = some g → g < w.heap.size := fun g hg => (World.ownsRow.lt h.1 g hg).2
theorem Snaps.recol {c' : Nat → Nat} {sv : Value} {l : List (Snp × Value)} (h : Snaps c k w sv l) (hc : ∀ b, b < w.heap.size → c' b = c b) : Snaps c' k w sv l := by
  obtain ⟨h1, h2, h3, h4⟩ := h
  exact ⟨h1, fun g hg => (hc g (World.ownsRow.lt h1 g hg).2).trans (h2 g hg), fun x hx => ⟨(h3 x hx).1, fun g hg => (hc g ((h3 x hx).1.lt g hg)).trans ((h3 x hx).2 g hg)⟩, h4⟩
theorem Snaps.nil (c : Nat → Nat) (k : Nat) (w : World) : Snaps c k w (.slice none 0 0) [] := ⟨World.ownsRow_nil _ _ _ _, (fun g hg => by simp [Value.ownBlock] at hg), (fun x hx => by cases hx), by decide⟩
/-- Element i. -/
theorem Snaps.at {sv : Value} {l : List (Snp × Value)} (h : Snaps c k w sv l) {i : Nat} (hi : i < l.length) :
    ∃ g cap, sv = .slice (some ⟨g, 0, none⟩) l.length cap ∧ w.cell? ⟨g, i * 4, none⟩ = some (.int .u64 l[i].1.own) ∧ w.cell? ⟨g, i * 4 + 1, none⟩ = some (.int .u64 l[i].1.xmin) ∧
      w.cell? ⟨g, i * 4 + 2, none⟩ = some (.int .u64 l[i].1.xmax) ∧ (∃ ra rc, w.cell? ⟨g, i * 4 + 3, none⟩ = some (.slice ra l[i].1.run.length rc) ∧ l[i].2 = .slice ra l[i].1.run.length rc) ∧ Run w l[i].2 l[i].1.run ∧ c g = k := by
  obtain ⟨h1, h2, h3, h4⟩ := h
  have hc : ∀ j, j < 4 → (l.flatMap snapCells)[i * 4 + j]? = (snapCells l[i])[j]? := fun j hj => by
    rw [getElem?_flat snapCells 4 (fun _ => rfl) l i j hj, List.getElem?_eq_getElem hi]; rfl
  obtain ⟨g, cap, rfl, c0, _⟩ := ownsRow_cell h1 (hc 0 (by decide))
  obtain ⟨g1, cap1, e1, c1, _⟩ := ownsRow_cell h1 (hc 1 (by decide))
  obtain ⟨g2, cap2, e2, c2, _⟩ := ownsRow_cell h1 (hc 2 (by decide))
  obtain ⟨g3, cap3, e3, c3, _⟩ := ownsRow_cell h1 (hc 3 (by decide))
  simp only [Value.slice.injEq, Option.some.injEq, Addr.mk.injEq] at e1 e2 e3
  obtain ⟨⟨rfl, _⟩, _, rfl⟩ := e1
  obtain ⟨⟨rfl, _⟩, _, rfl⟩ := e2
  obtain ⟨⟨rfl, _⟩, _, rfl⟩ := e3
  have hr := (h3 _ (List.getElem_mem hi)).1
  obtain ⟨ra, rc, hrv⟩ := ownsRow_slice hr.1
  exact ⟨g, cap, rfl, c0, c1, c2, ⟨ra, rc, by rw [← hrv]; exact c3, hrv⟩, hr, h2 g rfl⟩

def least (nx : Int) : List Int → Int
  | [] => nx
  | x :: r => r.foldl (fun a y => if y < a then y else a) x
theorem least_snoc (nx : Int) (l : List Int) (y : Int) : least nx (l ++ [y]) = if l = [] then y else if y < least nx l then y else least nx l := by
  cases l with
  | nil => rfl
  | cons x r =>
    show List.foldl _ _ (r ++ [y]) = _
    rw [List.foldl_append, if_neg (by simp)]; rfl

set_option maxRecDepth 100000 in
/-- snap.Horizon. -/
theorem horizon_at {k' : Nat} (h : LogAt c k w p f L) {sv : Value} {l : List (Snp × Value)} (hs : Snaps c k' w sv l) :
    Calls Try.prog 37 #[.pointer (some ⟨p, 0, none⟩), sv] w fun e w' => e = .returned (.int .u64 (least (f + L.length) (l.map (·.1.xmin)))) ∧ Below w.heap.size w w' := by
  have hs1 := hs.1
  obtain ⟨a, cap, rfl⟩ := ownsRow_slice hs1
  have hl := hs.2.2.2
  clear hs1
  go_enter Try.func37, Try.ntmps37
  go_wp2_with fail
  refine (next_at h).mono ?_
  rintro e w0 ⟨rfl, n0, rfl⟩
  go_wp2_with fail
  go_loopw [5, 12] (fun v i wr => ∃ n : Nat, n ≤ l.length ∧ i = .int .i64 n ∧ v = .int .u64 (least (f + L.length) ((l.take n).map (·.1.xmin))) ∧ Below w.heap.size w wr) (fun _ i _ => l.length - (intOf i).toNat)
  case atStart => exact ⟨0, Nat.zero_le _, rfl, rfl, below_drewN⟩
  case round =>
    obtain ⟨n, hn, rfl, rfl, hB⟩ := hrel
    have hz := hB.size
    by_cases hlt : n < l.length
    · obtain ⟨g, cp, hg, c0, c1, c2, ⟨ra, rc, c3, _⟩, _, _⟩ := (hs.same hB).at hlt
      simp only [Value.slice.injEq] at hg
      obtain ⟨rfl, _, rfl⟩ := hg
      have hst : (l.take (n + 1)).map (·.1.xmin) = (l.take n).map (·.1.xmin) ++ [l[n].1.xmin] := by rw [List.take_succ_eq_append_getElem hlt, List.map_append]; rfl
      have hsn := least_snoc (f + L.length) ((l.take n).map (·.1.xmin)) l[n].1.xmin
      rw [← hst] at hsn
      have hemp : ((l.take n).map (·.1.xmin) = []) ↔ n = 0 := by
        rw [List.map_eq_nil_iff, List.take_eq_nil_iff]
        constructor
        · rintro (h | h)
          · exact h
          · rw [h] at hlt; simp at hlt
        · exact fun h => .inl h
      clear hst
      have HE := Lib.hid hemp; clear hemp
      obtain ⟨s0, hs0⟩ : ∃ z, z = l[n] := ⟨_, rfl⟩
      rw [← hs0] at c0 c1 c2 c3 hsn
      clear hs0
      obtain ⟨now, hnow⟩ : ∃ z, z = least (f + L.length) ((l.take n).map (·.1.xmin)) := ⟨_, rfl⟩
      rw [← hnow] at hsn ⊢
      clear hnow
      by_cases h0 : n = 0
      · subst h0
        rw [if_pos (HE.out.2 rfl)] at hsn
        have HS := Lib.hid hsn; clear hsn
        go_wp2_with fail
        go_roundw
        case rel => exact ⟨1, by omega, by go_num, by rw [HS.out], hB.alloc hz _⟩
        case measure => simp [intOf]; omega
      · rw [if_neg (fun x => h0 (HE.out.1 x))] at hsn
        have hb0 : ((n : Int) == 0) = false := by rw [beq_eq_false_iff_ne]; omega
        by_cases hlt2 : s0.1.xmin < now
        · rw [if_pos hlt2] at hsn
          have HS := Lib.hid hsn; clear hsn
          go_wp2_with fail
          go_roundw
          case rel => exact ⟨n + 1, by omega, by go_num, by rw [HS.out], hB.alloc hz _⟩
          case measure => simp [intOf]; omega
        · rw [if_neg hlt2] at hsn
          have HS := Lib.hid hsn; clear hsn
          have hd : decide (s0.1.xmin < now) = false := by simpa using hlt2
          go_wp2_with fail
          go_roundw
          case rel => exact ⟨n + 1, by omega, by go_num, by rw [HS.out], hB.alloc hz _⟩
          case measure => simp [intOf]; omega
    · have hnl : n = l.length := by omega
      subst hnl
      go_wp2_with fail
      go_ret
      exact ⟨by rw [List.take_length]; rfl, hB⟩
end
end Go.Proofs.Ytdohkjpapmkhjaa
