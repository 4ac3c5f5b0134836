/-
  THE PROGRAM's LOG (package clog): what New, Next, State, Commit, Abort, Begin, All come to, of any log in memory, a nil one too.
  'LogAt c k w p f L': at block p of w there lies a log whose first number is f and whose states are L; its blocks are k's by c.
-/
import Derived.Test.YtdohkjpapmkhjaaRows
import Derived.Test.YtdohkjpapmkhjaaMem
import Derived.Test.YtdohkjpapmkhjaaPack
namespace Go.Proofs.Ytdohkjpapmkhjaa
open Go.RowKit

theorem Try.info5 : (Try.prog.info? 5).map (fun i => (i.zero, i.size, i.bytes)) = some (some (.int .u8 0), 1, 1) := by kernel_rfl
theorem Try.info3 : (Try.prog.info? 3).map (fun i => (i.zero, i.size, i.bytes)) = some (some (.int .i64 0), 1, 8) := by kernel_rfl
theorem Try.info23 : (Try.prog.info? 23).map (fun i => (i.zero, i.size, i.bytes)) = some (some (.int .u64 0), 1, 8) := by kernel_rfl

/-- What became of transaction x. -/
def stt (f : Int) (L : List Nat) (x : Int) : Nat := if x < f then 0 else L.getD (x - f).toNat 0

theorem stt_lo {f x : Int} {L : List Nat} (h : x < f) : stt f L x = 0 := by simp [stt, h]
theorem stt_hi {f x : Int} {L : List Nat} (h : f + L.length ≤ x) : stt f L x = 0 := by
  unfold stt; rw [if_neg (by omega), getD_out L (by omega)]
theorem stt_in {f x : Int} {L : List Nat} (h : f ≤ x) : stt f L x = L.getD (x - f).toNat 0 := by
  unfold stt; rw [if_neg (by omega)]

def u8s (l : List Nat) : List Value := l.map fun (b : Nat) => Value.int .u8 (b : Int)

def LogAt (c : Nat → Nat) (k : Nat) (w : World) (p : Nat) (f : Int) (L : List Nat) : Prop :=
  1 ≤ f ∧ f + L.length ≤ 1099511627777 ∧ Four L ∧ c p = k ∧
    ∃ v, w.heap[p]? = some (.cells #[.int .u64 f, .int .u64 L.length, v] 125 (0, 0)) ∧ w.ownsRow 0 5 1 v ((L.length + 3) / 4) (u8s (pack L)) ∧
      ∀ g, v.ownBlock = some g → c g = k ∧ g ≠ p

section
variable {c : Nat → Nat} {k p : Nat} {w w' : World} {f : Int} {L : List Nat}

theorem LogAt.upd {S : Nat → Prop} (h : LogAt c k w p f L) (u : Upd S w w') (hs : ∀ b, c b = k → ¬ S b) : LogAt c k w' p f L := by
  obtain ⟨h1, h2, h3, h4, v, h5, h6, h7⟩ := h
  exact ⟨h1, h2, h3, h4, v, u.heap h5 (hs p h4), ownsRow_upd h6 u (fun b hb => hs b (h7 b hb).1), h7⟩

theorem LogAt.same (h : LogAt c k w p f L) (u : Below w.heap.size w w') : LogAt c k w' p f L := h.upd (S := fun _ => False) (Upd.same u) (fun _ _ x => x)
theorem LogAt.drewN (h : LogAt c k w p f L) (n : Nat) : LogAt c k (w.drewN n) p f L := h.upd (S := fun _ => False) (Upd.of_drewN n) (fun _ _ x => x)
theorem LogAt.lt (h : LogAt c k w p f L) : p < w.heap.size := by
  obtain ⟨h1, h2, h3, h4, v, h5, h6, h7⟩ := h; exact lt_of_block h5

/-- Another colouring, the same on old blocks. -/
theorem LogAt.recol {c' : Nat → Nat} (h : LogAt c k w p f L) (hc : ∀ b, b < w.heap.size → c' b = c b) : LogAt c' k w p f L := by
  obtain ⟨h1, h2, h3, h4, v, h5, h6, h7⟩ := h
  refine ⟨h1, h2, h3, (hc p (lt_of_block h5)).trans h4, v, h5, h6, fun g hg => ⟨?_, (h7 g hg).2⟩⟩
  rw [hc g (World.ownsRow.lt h6 g hg).2]; exact (h7 g hg).1

theorem next_cells (p : Nat) (f n : Int) (w : World) (h0 : 0 ≤ f) (h1 : 0 ≤ n) (h2 : f + n ≤ 9223372036854775807)
    (c0 : w.cell? ⟨p, 0, none⟩ = some (.int .u64 f)) (c1 : w.cell? ⟨p, 1, none⟩ = some (.int .u64 n)) :
    Calls Try.prog 20 #[.pointer (some ⟨p, 0, none⟩)] w fun e w' => e = .returned (.int .u64 (f + n)) ∧ ∃ k, w' = w.drewN k := by
  go_enter Try.func20, Try.ntmps20
  go_wp2
  go_quiet (fail)
  go_wp2
  go_ret
  exact ⟨rfl, _, rfl⟩

theorem next_nil (w : World) : Calls Try.prog 20 #[.pointer none] w fun e w' => e = .returned (.int .u64 0) ∧ w' = w := by
  go_enter Try.func20, Try.ntmps20
  go_wp2
  go_ret
  exact ⟨rfl, rfl⟩

/-- clog.Next. -/
theorem next_at (h : LogAt c k w p f L) :
    Calls Try.prog 20 #[.pointer (some ⟨p, 0, none⟩)] w fun e w' => e = .returned (.int .u64 (f + L.length)) ∧ ∃ n, w' = w.drewN n := by
  obtain ⟨h1, h2, h3, h4, v, h5, h6, h7⟩ := h
  exact next_cells p f L.length w (by omega) (by omega) (by omega) (cell_of_block h5 rfl) (cell_of_block h5 rfl)

theorem state_lo (p : Nat) (f x : Int) (w : World) (hx : x < f)
    (c0 : w.cell? ⟨p, 0, none⟩ = some (.int .u64 f)) :
    Calls Try.prog 21 #[.pointer (some ⟨p, 0, none⟩), .int .u64 x] w fun e w' => e = .returned (.int .i64 0) ∧ ∃ k, w' = w.drewN k := by
  have hd : decide (x < f) = true := by simp; omega
  go_enter Try.func21, Try.ntmps21
  go_wp2
  go_ret
  exact ⟨rfl, 0, rfl⟩

theorem state_hi (p : Nat) (f n x : Int) (w : World) (h0 : 0 ≤ f) (h1 : 0 ≤ n) (h2 : f + n ≤ 9223372036854775807) (hx : f + n ≤ x)
    (c0 : w.cell? ⟨p, 0, none⟩ = some (.int .u64 f)) (c1 : w.cell? ⟨p, 1, none⟩ = some (.int .u64 n)) :
    Calls Try.prog 21 #[.pointer (some ⟨p, 0, none⟩), .int .u64 x] w fun e w' => e = .returned (.int .i64 0) ∧ ∃ k, w' = w.drewN k := by
  have hd : decide (x < f) = false := by simp; omega
  have hd2 : decide (f + n ≤ x) = true := by simp; omega
  go_enter Try.func21, Try.ntmps21
  go_wp2
  go_quiet ((go_at_call 20; exact Calls.quiet_of_same (next_cells _ _ _ _ h0 h1 h2 (by assumption) (by assumption))))
  go_wp2
  go_ret
  exact ⟨rfl, _, rfl⟩

theorem state_in (p g : Nat) (f n x b : Int) (len cap : Nat) (w : World) (h0 : 0 ≤ f) (h1 : 0 ≤ n) (h2 : f + n ≤ 9223372036854775807)
    (hx : f ≤ x) (hx2 : x < f + n) (hn : n ≤ 4 * len)
    (c0 : w.cell? ⟨p, 0, none⟩ = some (.int .u64 f)) (c1 : w.cell? ⟨p, 1, none⟩ = some (.int .u64 n))
    (c2 : w.cell? ⟨p, 2, none⟩ = some (.slice (some ⟨g, 0, none⟩) len cap))
    (c3 : w.cell? ⟨g, ((x - f) / 4).toNat, none⟩ = some (.int .u8 b)) :
    Calls Try.prog 21 #[.pointer (some ⟨p, 0, none⟩), .int .u64 x] w fun e w' =>
      e = .returned (.int .i64 (wrap64 (bits .and .u8 (b / 2 ^ (2 * ((x - f) % 4)).toNat) 3))) ∧ ∃ k, w' = w.drewN k := by
  have hd : decide (x < f) = false := by simp; omega
  have hd2 : decide (f + n ≤ x) = false := by simp; omega
  go_enter Try.func21, Try.ntmps21
  go_wp2
  go_quiet ((go_at_call 20; exact Calls.quiet_of_same (next_cells _ _ _ _ h0 h1 h2 (by assumption) (by assumption))))
  go_wp2
  go_ret
  exact ⟨rfl, _, rfl⟩

theorem digit_read (b : Nat) (hb : b < 256) (i : Int) (hi : 0 ≤ i) : wrap64 (bits .and .u8 ((b : Int) / 2 ^ (2 * (i % 4)).toNat) 3) = ((b / 4 ^ (i.toNat % 4) % 4 : Nat) : Int) := by
  obtain ⟨n, rfl⟩ := Int.eq_ofNat_of_zero_le hi
  have e : (2 * ((n : Int) % 4)).toNat = 2 * (n % 4) := by omega
  rw [e, Int.toNat_natCast, digit_spelt b hb (n % 4) (by omega)]
  exact IntWalk.wrap64_in _ (by omega)

/-- The byte that holds state i, in memory. -/
theorem LogAt.byte (h : LogAt c k w p f L) {i : Nat} (hi : i < L.length) :
    ∃ g cap, w.cell? ⟨p, 2, none⟩ = some (.slice (some ⟨g, 0, none⟩) ((L.length + 3) / 4) cap) ∧ w.cell? ⟨g, i / 4, none⟩ = some (.int .u8 (byteAt L (i / 4) : Nat)) ∧ w.frozen? ⟨g, i / 4, none⟩ = false ∧ c g = k ∧ g ≠ p := by
  obtain ⟨h1, h2, h3, h4, v, h5, h6, h7⟩ := h
  have hj : (u8s (pack L))[i / 4]? = some (.int .u8 (byteAt L (i / 4) : Nat)) := by
    simp only [u8s, List.getElem?_map, getElem?_pack]
    rw [if_pos (by omega)]; rfl
  obtain ⟨g, cap, rfl, hc, hf, _, _⟩ := ownsRow_cell1 h6 hj
  exact ⟨g, cap, cell_of_block h5 rfl, hc, hf, h7 g rfl⟩

/-- clog.State. -/
theorem state_at (h : LogAt c k w p f L) (x : Int) :
    Calls Try.prog 21 #[.pointer (some ⟨p, 0, none⟩), .int .u64 x] w fun e w' => e = .returned (.int .i64 (stt f L x)) ∧ ∃ n, w' = w.drewN n := by
  have hh := h
  obtain ⟨h1, h2, h3, h4, v, h5, h6, h7⟩ := h
  by_cases hx : x < f
  · rw [stt_lo hx]; exact state_lo p f x w hx (cell_of_block h5 rfl)
  by_cases hx2 : f + L.length ≤ x
  · rw [stt_hi hx2]; exact state_hi p f L.length x w (by omega) (by omega) (by omega) hx2 (cell_of_block h5 rfl) (cell_of_block h5 rfl)
  obtain ⟨i, hi⟩ := Int.eq_ofNat_of_zero_le (show 0 ≤ x - f by omega)
  obtain ⟨g, cap, hc2, hc3, _, _, _⟩ := hh.byte (i := i) (by omega)
  have hb := byteAt_lt h3 (i / 4)
  have hq : ((x - f) / 4).toNat = i / 4 := by omega
  refine (state_in p g f L.length x (byteAt L (i / 4) : Nat) _ cap w (by omega) (by omega) (by omega) (by omega) (by omega) (by omega) (cell_of_block h5 rfl) (cell_of_block h5 rfl) hc2 (by rw [hq]; exact hc3)).mono ?_
  rintro e w' ⟨rfl, hw⟩
  refine ⟨?_, hw⟩
  rw [digit_read _ hb _ (by omega), stt_in (by omega), hi, Int.toNat_natCast, byteAt_digit h3]

theorem state_nil (x : Int) (w : World) : Calls Try.prog 21 #[.pointer none, .int .u64 x] w fun e w' => e = .returned (.int .i64 0) ∧ w' = w := by
  go_enter Try.func21, Try.ntmps21
  go_wp2
  go_ret
  exact ⟨rfl, rfl⟩

/-! ### writing -/
theorem set_cells (p g : Nat) (f x b s : Int) (len cap : Nat) (w : World) (h0 : 0 ≤ f) (hx : f ≤ x) (hx2 : x ≤ 9223372036854775807)
    (hn : (x - f) / 4 < len)
    (c0 : w.cell? ⟨p, 0, none⟩ = some (.int .u64 f))
    (c2 : w.cell? ⟨p, 2, none⟩ = some (.slice (some ⟨g, 0, none⟩) len cap))
    (c3 : w.cell? ⟨g, ((x - f) / 4).toNat, none⟩ = some (.int .u8 b)) (f3 : w.frozen? ⟨g, ((x - f) / 4).toNat, none⟩ = false) :
    Calls Try.prog 58 #[.pointer (some ⟨p, 0, none⟩), .int .u64 x, .int .u8 s] w fun e w' => e = .returned (.tuple #[]) ∧
      w' = w.setCell ⟨g, ((x - f) / 4).toNat, none⟩ (.int .u8 (bits .or .u8 (bits .andNot .u8 b (3 * 2 ^ (2 * ((x - f) % 4)).toNat % 256)) (s * 2 ^ (2 * ((x - f) % 4)).toNat % 256))) := by
  go_enter Try.func58, Try.ntmps58
  go_wp2
  go_end0
  exact ⟨rfl, rfl⟩

theorem digit_write (b : Nat) (hb : b < 256) (i s : Nat) (hs : s < 4) :
    bits .or .u8 (bits .andNot .u8 (b : Int) (3 * 2 ^ (2 * ((i : Int) % 4)).toNat % 256)) ((s : Int) * 2 ^ (2 * ((i : Int) % 4)).toNat % 256) = ((put4 b (i % 4) s : Nat) : Int) := by
  have e : (2 * ((i : Int) % 4)).toNat = 2 * (i % 4) := by omega
  rw [e]; exact put_spelt b hb (i % 4) (by omega) s hs

/-- clog.set, of a number that has begun. -/
theorem set_at (h : LogAt c k w p f L) (x : Int) (i s : Nat) (hs : s < 4) (hi : i < L.length) (hx : x = f + i) :
    Calls Try.prog 58 #[.pointer (some ⟨p, 0, none⟩), .int .u64 x, .int .u8 s] w fun e w' => e = .returned (.tuple #[]) ∧ LogAt c k w' p f (L.set i s) ∧ Upd (fun b => c b = k) w w' := by
  have hh := h
  obtain ⟨h1, h2, h3, h4, v, h5, h6, h7⟩ := h
  obtain ⟨g, cap, hc2, hc3, hf3, hg, hgp⟩ := hh.byte (i := i) hi
  have hb := byteAt_lt h3 (i / 4)
  have hxi : x - f = i := by omega
  have hq : ((x - f) / 4).toNat = i / 4 := by omega
  refine (set_cells p g f x (byteAt L (i / 4) : Nat) s _ cap w (by omega) (by omega) (by omega) (by omega) (cell_of_block h5 rfl) hc2 (by rw [hq]; exact hc3) (by rw [hq]; exact hf3)).mono ?_
  rintro e w' ⟨rfl, rfl⟩
  rw [hq, hxi, digit_write _ hb i s hs]
  have hv : v = .slice (some ⟨g, 0, none⟩) ((L.length + 3) / 4) cap := by
    have := cell_of_block h5 (i := 2) rfl
    exact Option.some.inj (this.symm.trans hc2)
  subst hv
  refine ⟨rfl, ⟨h1, by rw [List.length_set]; exact h2, h3.set hs i, h4, _, ?_, ?_, h7⟩, (Upd.refl _ w).setCell _ (fun _ => hg)⟩
  · rw [List.length_set]; exact block_setCell_other h5 (fun e => hgp e.symm) _
  · rw [List.length_set]
    have hrow := ownsRow_set1 h6 (j := i / 4) (.int .u8 (put4 (byteAt L (i / 4)) (i % 4) s : Nat))
    have e : (u8s (pack L)).set (i / 4) (.int .u8 (put4 (byteAt L (i / 4)) (i % 4) s : Nat)) = u8s (pack (L.set i s)) := by
      rw [pack_set h3 i s hi]; simp [u8s, List.map_set]
    rw [← e]; exact hrow

/-- The states behind an end: of one that runs. -/
def ended (f : Int) (L : List Nat) (x : Int) (s : Nat) : List Nat := if stt f L x = 1 then L.set (x - f).toNat s else L
/-- What an end answers: 0 fine, 15 none such. -/
def endErr (f : Int) (L : List Nat) (x : Int) : Int := if stt f L x = 1 then 0 else 15

/-- clog.end. -/
theorem end_at (h : LogAt c k w p f L) (x : Int) (s : Nat) (hs : s < 4) :
    Calls Try.prog 59 #[.pointer (some ⟨p, 0, none⟩), .int .u64 x, .int .u8 s] w fun e w' => e = .returned (.int .i64 (endErr f L x)) ∧ LogAt c k w' p f (ended f L x s) ∧ Upd (fun b => c b = k) w w' := by
  by_cases hr : stt f L x = 1
  · have hb : (((stt f L x : Nat) : Int) != 1) = false := by rw [hr]; rfl
    have he : endErr f L x = 0 := by simp [endErr, hr]
    have hL : ended f L x s = L.set (x - f).toNat s := by simp [ended, hr]
    have hlo : f ≤ x := by
      by_cases hx : x < f
      · rw [stt_lo hx] at hr; omega
      · omega
    have hhi : x < f + L.length := by
      by_cases hx : f + L.length ≤ x
      · rw [stt_hi hx] at hr; omega
      · omega
    rw [he, hL]
    have HR := Lib.hid hr; clear hr he hL
    go_enter Try.func59, Try.ntmps59
    go_wp2_with (first | (go_at_call 21; refine (state_at h x).mono ?_; rintro e w1 ⟨rfl, n, rfl⟩) | (go_at_call 58; refine (set_at (h.drewN n) x (x - f).toNat s hs (by omega) (by omega)).mono ?_; rintro e w2 ⟨rfl, hl, hu⟩))
    go_ret
    exact ⟨rfl, hl, (Upd.of_drewN n).trans hu⟩
  · have hb : (((stt f L x : Nat) : Int) != 1) = true := by rw [bne_iff_ne]; omega
    have he : endErr f L x = 15 := by simp [endErr, hr]
    have hL : ended f L x s = L := by simp [ended, hr]
    rw [he, hL]
    clear hr he hL
    go_enter Try.func59, Try.ntmps59
    go_wp2_with (first | (go_at_call 21; refine (state_at h x).mono ?_; rintro e w1 ⟨rfl, n, rfl⟩))
    go_ret
    exact ⟨rfl, h.drewN n, Upd.of_drewN n⟩

/-- clog.Commit. -/
theorem commit_at (h : LogAt c k w p f L) (x : Int) :
    Calls Try.prog 23 #[.pointer (some ⟨p, 0, none⟩), .int .u64 x] w fun e w' => e = .returned (.int .i64 (endErr f L x)) ∧ LogAt c k w' p f (ended f L x 2) ∧ Upd (fun b => c b = k) w w' := by
  go_enter Try.func23, Try.ntmps23
  go_wp2_with (go_at_call 59; refine (end_at h x 2 (by omega)).mono ?_; rintro e w1 ⟨rfl, hl, hu⟩)
  go_ret
  exact ⟨rfl, hl, hu⟩
/-- clog.Abort. -/
theorem abort_at (h : LogAt c k w p f L) (x : Int) :
    Calls Try.prog 25 #[.pointer (some ⟨p, 0, none⟩), .int .u64 x] w fun e w' => e = .returned (.int .i64 (endErr f L x)) ∧ LogAt c k w' p f (ended f L x 3) ∧ Upd (fun b => c b = k) w w' := by
  go_enter Try.func25, Try.ntmps25
  go_wp2_with (go_at_call 59; refine (end_at h x 3 (by omega)).mono ?_; rintro e w1 ⟨rfl, hl, hu⟩)
  go_ret
  exact ⟨rfl, hl, hu⟩
theorem end_nil (x s : Int) (w : World) : Calls Try.prog 59 #[.pointer none, .int .u64 x, .int .u8 s] w fun e w' => e = .returned (.int .i64 15) ∧ w' = w := by
  go_enter Try.func59, Try.ntmps59
  go_wp2_with (go_at_call 21; refine (state_nil x _).mono ?_; rintro e w1 ⟨rfl, rfl⟩)
  go_ret
  exact ⟨rfl, rfl⟩
theorem commit_nil (x : Int) (w : World) : Calls Try.prog 23 #[.pointer none, .int .u64 x] w fun e w' => e = .returned (.int .i64 15) ∧ w' = w := by
  go_enter Try.func23, Try.ntmps23
  go_wp2_with (go_at_call 59; refine (end_nil x _ _).mono ?_; rintro e w1 ⟨rfl, rfl⟩)
  go_ret
  exact ⟨rfl, rfl⟩
theorem abort_nil (x : Int) (w : World) : Calls Try.prog 25 #[.pointer none, .int .u64 x] w fun e w' => e = .returned (.int .i64 15) ∧ w' = w := by
  go_enter Try.func25, Try.ntmps25
  go_wp2_with (go_at_call 59; refine (end_nil x _ _).mono ?_; rintro e w1 ⟨rfl, rfl⟩)
  go_ret
  exact ⟨rfl, rfl⟩

theorem begin_nil (w : World) : Calls Try.prog 18 #[.pointer none] w fun e w' => e = .returned (.tuple #[.int .u64 0, .int .i64 15]) ∧ w' = w := by
  go_enter Try.func18, Try.ntmps18
  go_wp2
  go_ret2
  exact ⟨rfl, rfl⟩

theorem begin_full (h : LogAt c k w p f L) (hf : 1099511627776 < f + L.length) :
    Calls Try.prog 18 #[.pointer (some ⟨p, 0, none⟩)] w fun e w' => e = .returned (.tuple #[.int .u64 0, .int .i64 12]) ∧ ∃ n, w' = w.drewN n := by
  go_enter Try.func18, Try.ntmps18
  go_wp2_with (go_at_call 20; refine (next_at h).mono ?_; rintro e w1 ⟨rfl, n, rfl⟩)
  go_ret2
  exact ⟨rfl, _, rfl⟩

/-- The count raised, no byte wanted. -/
theorem LogAt.bump (h : LogAt c k w p f L) (hf : f + L.length ≤ 1099511627776) (hm : L.length % 4 ≠ 0) :
    LogAt c k (w.setCell ⟨p, 1, none⟩ (.int .u64 (L.length + 1))) p f (L ++ [0]) := by
  obtain ⟨h1, h2, h3, h4, v, h5, h6, h7⟩ := h
  refine ⟨h1, by simp; omega, h3.snoc (by omega), h4, v, ?_, ?_, h7⟩
  · rw [block_setCell h5]; simp
  · rw [pack_snoc0 L hm, List.length_append, List.length_singleton, show (L.length + 1 + 3) / 4 = (L.length + 3) / 4 by omega]
    exact ownsRow_upd (S := fun b => b = p) h6 ((Upd.refl _ w).setCell _ (fun _ => rfl)) (fun b hb => (h7 b hb).2)

set_option maxHeartbeats 400000 in
theorem begin_room (h : LogAt c k w p f L) (hf : f + L.length ≤ 1099511627776) (hm : L.length % 4 ≠ 0) :
    Calls Try.prog 18 #[.pointer (some ⟨p, 0, none⟩)] w fun e w' => e = .returned (.tuple #[.int .u64 (f + L.length), .int .i64 0]) ∧ LogAt c k w' p f (L ++ [1]) ∧ Upd (fun b => c b = k) w w' := by
  have hm1 : ((L.length : Int) % 4 == 0) = false := by rw [beq_eq_false_iff_ne]; omega
  obtain ⟨h1, h4, hc1, hf1⟩ : 1 ≤ f ∧ c p = k ∧ w.cell? ⟨p, 1, none⟩ = some (.int .u64 L.length) ∧ w.frozen? ⟨p, 1, none⟩ = false := by
    obtain ⟨h1, h2, h3, h4, v, h5, h6, h7⟩ := h; exact ⟨h1, h4, cell_of_block h5 rfl, free_of_block h5⟩
  have hl : (L.length : Int) ≤ 1099511627776 := by omega
  have H4 := Lib.hid h4; clear h4
  go_enter Try.func18, Try.ntmps18
  go_wp2_with (first
    | (go_at_call 20; refine (next_at (by first | exact h | exact h.drewN _)).mono ?_; rintro e w1 ⟨rfl, n, rfl⟩)
    | (go_at_call 58; refine (set_at (LogAt.bump (h.drewN _) hf hm) _ L.length 1 (by omega) (by simp) rfl).mono ?_; rintro e w1 ⟨rfl, hl2, hu⟩))
  go_ret2
  refine ⟨rfl, by rw [set_snoc0] at hl2; exact hl2, Upd.trans ?_ hu⟩
  exact (Upd.of_drewN _).setCell _ (fun _ => H4.out)

/-- The count raised, and a byte more. -/
theorem LogAt.bump_new (h : LogAt c k w p f L) (hf : f + L.length ≤ 1099511627776) (hm : L.length % 4 = 0) {v v' : Value} {w1 : World}
    (hv : w.cell? ⟨p, 2, none⟩ = some v) (hown : w1.ownsRow 0 5 1 v' ((L.length + 3) / 4 + 1) (u8s (pack L) ++ [.int .u8 0])) (hg : Upd (fun b => v.ownBlock = some b) w w1)
    {c' : Nat → Nat} (hc : ∀ b, b < w.heap.size → c' b = c b) (hn : ∀ g, v'.ownBlock = some g → c' g = k ∧ g ≠ p) :
    LogAt c' k ((w1.setCell ⟨p, 2, none⟩ v').setCell ⟨p, 1, none⟩ (.int .u64 (L.length + 1))) p f (L ++ [0]) := by
  obtain ⟨h1, h2, h3, h4, v0, h5, h6, h7⟩ := h
  have e0 : v0 = v := by
    have := cell_of_block h5 (i := 2) rfl
    exact Option.some.inj (this.symm.trans hv)
  subst e0
  have h5' := hg.heap h5 (fun e => (h7 p e).2 rfl)
  refine ⟨h1, by simp; omega, h3.snoc (by omega), (hc p (lt_of_block h5)).trans h4, v', ?_, ?_, hn⟩
  · rw [block_setCell (block_setCell h5' v') _]; simp
  · have e1 : (L ++ [0]).length = L.length + 1 := by simp
    rw [pack_snoc0_full L hm, e1, show (L.length + 1 + 3) / 4 = (L.length + 3) / 4 + 1 by omega]
    have e : u8s (pack L ++ [0]) = u8s (pack L) ++ [.int .u8 0] := by simp [u8s]
    rw [e]
    have hu : Upd (fun b => b = p) w1 ((w1.setCell ⟨p, 2, none⟩ v').setCell ⟨p, 1, none⟩ (.int .u64 (L.length + 1))) :=
      Upd.setCell (a := ⟨p, 1, none⟩) (Upd.setCell (a := ⟨p, 2, none⟩) (Upd.refl (fun b => b = p) w1) _ (fun _ => rfl)) _ (fun _ => rfl)
    exact ownsRow_upd hown hu (fun b hb => (hn b hb).2)

set_option maxHeartbeats 400000 in
set_option maxRecDepth 100000 in
theorem begin_grow (h : LogAt c k w p f L) (hf : f + L.length ≤ 1099511627776) (hm : L.length % 4 = 0) :
    Calls Try.prog 18 #[.pointer (some ⟨p, 0, none⟩)] w fun e w' => e = .returned (.tuple #[.int .u64 (f + L.length), .int .i64 0]) ∧
      LogAt (col c w.heap.size k) k w' p f (L ++ [1]) ∧ Upd (fun b => c b = k) w w' := by
  have hm1 : ((L.length : Int) % 4 == 0) = true := by rw [beq_iff_eq]; omega
  obtain ⟨i0, hi, hz0, hz1, hz2⟩ := info_parts Try.info5
  obtain ⟨h1, h4, v, hc1, hf1, hc2, hf2, hown, h7⟩ : 1 ≤ f ∧ c p = k ∧ ∃ v, w.cell? ⟨p, 1, none⟩ = some (.int .u64 L.length) ∧ w.frozen? ⟨p, 1, none⟩ = false ∧
      w.cell? ⟨p, 2, none⟩ = some v ∧ w.frozen? ⟨p, 2, none⟩ = false ∧ w.ownsRow 0 5 1 v ((L.length + 3) / 4) (u8s (pack L)) ∧ ∀ g, v.ownBlock = some g → c g = k ∧ g ≠ p := by
    obtain ⟨h1, h2, h3, h4, v, h5, h6, h7⟩ := h; exact ⟨h1, h4, v, cell_of_block h5 rfl, free_of_block h5, cell_of_block h5 rfl, free_of_block h5, h6, h7⟩
  have hl : (L.length : Int) ≤ 1099511627776 := by omega
  have hp := h.lt
  have H4 := Lib.hid h4; clear h4
  have H7 := Lib.hid h7; clear h7
  have Hm := Lib.hid hm; clear hm
  go_enter Try.func18, Try.ntmps18
  go_wp2_with (first
    | (go_at_call 20; refine (next_at (by first | exact h | exact h.drewN _)).mono ?_; rintro e w1 ⟨rfl, n, rfl⟩)
    | (at_builtin; refine wpList_append_mine rfl (.tmp 24) (.tmp 25) 50 rfl 0 5 i0 (.int .u8 0) 1 1 Try.underlying50 hi hz0 hz1 hz2 rfl (by decide) _ _ _ rfl (World.ownsRow.alloc (ownsRow_upd (S := fun _ => False) hown (Upd.of_drewN _) (fun _ _ x => x)) _) ⟨w.heap.size, 0, none⟩ 1 1 [.int .u8 0] rfl rfl ?c1 ?c2 ?c3 ?c4 ?c5 ?_))
  case c1 => exact cell_one_new _ _ _
  case c2 => intro u hu; simp at hu; subst hu; rfl
  case c3 => unfold maxLen; omega
  case c4 => omega
  case c5 => omega
  intro v' w1 hown' hupd hnew
  obtain ⟨hlog, hu1, he1, he2, he3, he4⟩ : LogAt (col c w.heap.size k) k ((w1.setCell ⟨p, 2, none⟩ v').setCell ⟨p, 1, none⟩ (.int .u64 (L.length + 1))) p f (L ++ [0]) ∧ Upd (fun b => c b = k) w w1 ∧
      w1.cell? ⟨p, 1, none⟩ = some (.int .u64 L.length) ∧ w1.frozen? ⟨p, 1, none⟩ = false ∧ w1.frozen? ⟨p, 2, none⟩ = false ∧ w1.cell? ⟨p, 2, none⟩ = some v := by
    have hU0 : Upd (fun b => v.ownBlock = some b) w w1 := Upd.trans (Upd.alloc (Upd.of_drewN _) _) hupd
    have hpv : ¬ v.ownBlock = some p := fun e => (H7.out p e).2 rfl
    refine ⟨LogAt.bump_new h hf Hm.out hc2 hown' hU0 (fun b hb => col_old hb) ?_, hU0.mono (fun b _ e => (H7.out b e).1), hU0.cell hc1 hpv, (World.frozen?_of_block (hU0.block p hp hpv)).trans hf1, (World.frozen?_of_block (hU0.block p hp hpv)).trans hf2, hU0.cell hc2 hpv⟩
    intro g hg
    rcases hnew g hg with e | e
    · have hlt : g < w.heap.size := (World.ownsRow.lt hown g e).2
      rw [col_old hlt]; exact H7.out g e
    · have hlt : w.heap.size + 1 ≤ g := by simpa using e
      exact ⟨col_new (by omega), by omega⟩
  obtain ⟨g, cap, rfl, _, _, _⟩ := ownsRow_some hown' (by omega)
  clear hupd hnew hown' hc1 hf1 hc2 hf2 hown
  go_wp2_with (go_at_call 58; refine (set_at hlog _ L.length 1 (by omega) (by simp) rfl).mono ?_; rintro e w2 ⟨rfl, hl2, hu⟩)
  go_ret2
  refine ⟨rfl, by rw [set_snoc0] at hl2; exact hl2, ?_⟩
  refine (Upd.setCell (Upd.setCell hu1 _ (fun _ => H4.out)) _ (fun _ => H4.out)).trans_new hu (fun b hb e => by rw [col_old hb] at e; exact e)

/-- clog.Begin, where a number is left. -/
theorem begin_at (h : LogAt c k w p f L) (hf : f + L.length ≤ 1099511627776) :
    Calls Try.prog 18 #[.pointer (some ⟨p, 0, none⟩)] w fun e w' => e = .returned (.tuple #[.int .u64 (f + L.length), .int .i64 0]) ∧
      LogAt (col c w.heap.size k) k w' p f (L ++ [1]) ∧ Upd (fun b => c b = k) w w' := by
  by_cases hm : L.length % 4 = 0
  · exact begin_grow h hf hm
  · refine (begin_room (h.recol (c' := col c w.heap.size k) (fun b hb => col_old hb)) hf hm).mono ?_
    rintro e w' ⟨rfl, hl, hu⟩
    exact ⟨rfl, hl, hu.mono (fun b hb e => by rw [col_old hb] at e; exact e)⟩

/-- Those that run: of the first n. -/
def running (f : Int) (L : List Nat) : List Int := ((List.range L.length).filter fun i => L.getD i 0 == 1).map fun (i : Nat) => f + (i : Int)
def runTo (f : Int) (L : List Nat) (n : Nat) : List Int := ((List.range n).filter fun i => L.getD i 0 == 1).map fun (i : Nat) => f + (i : Int)
def u64s (l : List Int) : List Value := l.map (Value.int .u64)
theorem runTo_succ (f : Int) (L : List Nat) (n : Nat) : runTo f L (n + 1) = runTo f L n ++ if L.getD n 0 = 1 then [f + (n : Int)] else [] := by
  unfold runTo
  rw [List.range_succ, List.filter_append, List.map_append]
  congr 1
  by_cases h : L.getD n 0 = 1
  · have e : (L.getD n 0 == 1) = true := by rw [h]; rfl
    rw [if_pos h, List.filter_cons, if_pos e]; rfl
  · have e : ¬ (L.getD n 0 == 1) = true := by rw [beq_iff_eq]; exact h
    rw [if_neg h, List.filter_cons, if_neg e]; rfl
theorem runTo_le (f : Int) (L : List Nat) (n : Nat) : (runTo f L n).length ≤ n := by
  unfold runTo; rw [List.length_map]; exact Nat.le_trans (List.length_filter_le _ _) (by simp)

set_option maxHeartbeats 400000 in
set_option maxRecDepth 100000 in
theorem all_at (h : LogAt c k w p f L) :
    Calls Try.prog 19 #[.pointer (some ⟨p, 0, none⟩)] w fun e w' => ∃ v, e = .returned v ∧ w'.ownsRow w.heap.size 23 1 v (running f L).length (u64s (running f L)) ∧ Below w.heap.size w w' := by
  obtain ⟨i0, hi, hz0, hz1, hz2⟩ := info_parts Try.info23
  obtain ⟨h1, h2, hc0, hc1⟩ : 1 ≤ f ∧ f + L.length ≤ 1099511627777 ∧ w.cell? ⟨p, 0, none⟩ = some (.int .u64 f) ∧ w.cell? ⟨p, 1, none⟩ = some (.int .u64 L.length) := by
    obtain ⟨h1, h2, h3, h4, v, h5, h6, h7⟩ := h; exact ⟨h1, h2, cell_of_block h5 rfl, cell_of_block h5 rfl⟩
  have hpl := h.lt
  go_enter Try.func19, Try.ntmps19
  go_wp2_with fail
  go_loopw [3, 11] (fun v i wr => ∃ n : Nat, n ≤ L.length ∧ i = .int .u64 n ∧ wr.ownsRow w.heap.size 23 1 v (runTo f L n).length (u64s (runTo f L n)) ∧ Below w.heap.size w wr) (fun _ i _ => L.length - (intOf i).toNat)
  case atStart => exact ⟨0, Nat.zero_le _, rfl, World.ownsRow_nil _ _ _ _, Below.refl _ _⟩
  case round =>
    obtain ⟨n, hn, rfl, hown, hB⟩ := hrel
    have hc0' := (hB.cell (p := ⟨p, 0, none⟩) hpl).trans hc0
    have hl := h.same hB
    by_cases hlt : n < L.length
    · have hst : stt f L (f + n) = L.getD n 0 := by rw [stt_in (by omega)]; congr 1; omega
      by_cases hr : L.getD n 0 = 1
      · have hb : (((stt f L (f + n) : Nat) : Int) == 1) = true := by rw [hst, hr]; rfl
        have hsu := runTo_succ f L n
        rw [if_pos hr] at hsu
        have hle := runTo_le f L n
        have hwz := hB.size
        have HS := Lib.hid hsu; clear hsu hst hr
        go_wp2_with (first
          | (go_at_call 21; refine (state_at hl _).mono ?_; rintro e w1 ⟨rfl, m, rfl⟩)
          | (at_builtin; refine wpList_append_mine rfl (.tmp 23) (.tmp 30) 30 rfl w.heap.size 23 i0 (.int .u64 0) 1 8 Try.underlying30 hi hz0 hz1 hz2 rfl (by decide) _ _ _ rfl (World.ownsRow.alloc (ownsRow_upd (S := fun _ => False) hown (Upd.of_drewN _) (fun _ _ x => x)) _) ⟨wr.heap.size, 0, none⟩ 1 1 [.int .u64 (f + n)] rfl rfl ?c1 ?c2 ?c3 ?c4 ?c5 ?_))
        case c1 => exact cell_one_new _ _ _
        case c2 => intro u hu; simp at hu; subst hu; rfl
        case c3 => unfold maxLen; omega
        case c4 => omega
        case c5 => simp; omega
        intro v' w1 hown' hupd _
        have hu1 : Below w.heap.size wr w1 := Upd.below (Upd.trans (Upd.alloc (Upd.of_drewN m) _) hupd) hwz (fun b hb e => by have := (World.ownsRow.lt hown b e).1; omega)
        clear hupd hown
        go_wp2
        go_roundw
        case rel => exact ⟨n + 1, by omega, by go_num, by rw [HS.out]; simpa [u64s] using hown', hB.trans hu1⟩
        case measure => simp [intOf]; omega
      · have hb : (((stt f L (f + n) : Nat) : Int) == 1) = false := by rw [hst, beq_eq_false_iff_ne]; omega
        have hsu := runTo_succ f L n
        rw [if_neg hr, List.append_nil] at hsu
        have HS := Lib.hid hsu; clear hsu hst hr
        go_wp2_with (go_at_call 21; refine (state_at hl _).mono ?_; rintro e w1 ⟨rfl, m, rfl⟩)
        go_roundw
        case rel => exact ⟨n + 1, by omega, by go_num, by rw [HS.out]; exact ownsRow_upd (S := fun _ => False) hown (Upd.of_drewN _) (fun _ _ x => x), hB.trans (Upd.below (Upd.of_drewN (S := fun _ => False) m) hB.size (fun _ _ x => x))⟩
        case measure => simp [intOf]; omega
    · have hnl : n = L.length := by omega
      subst hnl
      go_wp2
      go_ret
      exact ⟨_, rfl, hown, hB⟩

theorem all_nil (w : World) : Calls Try.prog 19 #[.pointer none] w fun e w' => e = .returned (.slice none 0 0) ∧ w' = w := by
  go_enter Try.func19, Try.ntmps19
  go_wp2
  go_ret
  exact ⟨rfl, rfl⟩

theorem new_bad (f : Int) (w : World) (h : f = 0 ∨ 1099511627776 < f) : Calls Try.prog 17 #[.int .u64 f] w fun e w' => e = .returned (.tuple #[.pointer none, .int .i64 1]) ∧ w' = w := by
  by_cases h0 : f = 0
  · subst h0
    go_enter Try.func17, Try.ntmps17
    go_wp2
    go_ret2
    exact ⟨rfl, rfl⟩
  · have hb : (f == 0) = false := by rw [beq_eq_false_iff_ne]; exact h0
    have hh : 1099511627776 < f := by omega
    clear h h0
    go_enter Try.func17, Try.ntmps17
    go_wp2
    go_ret2
    exact ⟨rfl, rfl⟩
theorem new_ok (f : Int) (w : World) (h : 1 ≤ f) (h2 : f ≤ 1099511627776) (c : Nat → Nat) (k : Nat) :
    Calls Try.prog 17 #[.int .u64 f] w fun e w' => e = .returned (.tuple #[.pointer (some ⟨w.heap.size, 0, none⟩), .int .i64 0]) ∧
      LogAt (col c w.heap.size k) k w' w.heap.size f [] ∧ Below w.heap.size w w' := by
  have hb : (f == 0) = false := by rw [beq_eq_false_iff_ne]; omega
  go_enter Try.func17, Try.ntmps17
  go_wp2
  go_ret2
  exact ⟨rfl, ⟨h, by simp; omega, Four.nil, col_new (Nat.le_refl _), .slice none 0 0, heap_alloc_new w _, World.ownsRow_nil _ _ _ _, fun g hg => by simp [Value.ownBlock] at hg⟩, (Below.refl _ _).alloc (Nat.le_refl _) _⟩
end
end Go.Proofs.Ytdohkjpapmkhjaa
