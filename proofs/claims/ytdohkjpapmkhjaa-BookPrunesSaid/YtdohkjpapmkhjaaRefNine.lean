/-
  THE DOCUMENT's LOG (package lapidaryref09): what New, Next, State, End, Begin, All, Same come to, of any log in memory, a nil one too.
  'RefAt c k w p f L': at block p of w there lies such a log: first number f, states L; its blocks are k's by c.
-/
import Derived.Test.YtdohkjpapmkhjaaClog
namespace Go.Proofs.Ytdohkjpapmkhjaa
open Go.RowKit

def i64s (l : List Nat) : List Value := l.map fun (b : Nat) => Value.int .i64 (b : Int)

def RefAt (c : Nat → Nat) (k : Nat) (w : World) (p : Nat) (f : Int) (L : List Nat) : Prop :=
  1 ≤ f ∧ f + L.length ≤ 1099511627777 ∧ c p = k ∧
    ∃ v, w.heap[p]? = some (.cells #[.int .u64 f, v] 129 (0, 0)) ∧ w.ownsRow 0 3 1 v L.length (i64s L) ∧
      ∀ g, v.ownBlock = some g → c g = k ∧ g ≠ p

section
variable {c : Nat → Nat} {k p : Nat} {w w' : World} {f : Int} {L : List Nat}

theorem RefAt.upd {S : Nat → Prop} (h : RefAt c k w p f L) (u : Upd S w w') (hs : ∀ b, c b = k → ¬ S b) : RefAt c k w' p f L := by
  obtain ⟨h1, h2, h4, v, h5, h6, h7⟩ := h
  exact ⟨h1, h2, h4, v, u.heap h5 (hs p h4), ownsRow_upd h6 u (fun b hb => hs b (h7 b hb).1), h7⟩
theorem RefAt.same (h : RefAt c k w p f L) (u : Below w.heap.size w w') : RefAt c k w' p f L := h.upd (S := fun _ => False) (Upd.same u) (fun _ _ x => x)
theorem RefAt.drewN (h : RefAt c k w p f L) (n : Nat) : RefAt c k (w.drewN n) p f L := h.upd (S := fun _ => False) (Upd.of_drewN n) (fun _ _ x => x)
theorem RefAt.lt (h : RefAt c k w p f L) : p < w.heap.size := by
  obtain ⟨h1, h2, h4, v, h5, h6, h7⟩ := h; exact lt_of_block h5
theorem RefAt.recol {c' : Nat → Nat} (h : RefAt c k w p f L) (hc : ∀ b, b < w.heap.size → c' b = c b) : RefAt c' k w p f L := by
  obtain ⟨h1, h2, h4, v, h5, h6, h7⟩ := h
  refine ⟨h1, h2, (hc p (lt_of_block h5)).trans h4, v, h5, h6, fun g hg => ⟨?_, (h7 g hg).2⟩⟩
  rw [hc g (World.ownsRow.lt h6 g hg).2]; exact (h7 g hg).1

theorem RefAt.parts (h : RefAt c k w p f L) : 1 ≤ f ∧ f + L.length ≤ 1099511627777 ∧ w.cell? ⟨p, 0, none⟩ = some (.int .u64 f) ∧
    ∃ a cap, w.cell? ⟨p, 1, none⟩ = some (.slice a L.length cap) := by
  obtain ⟨h1, h2, h4, v, h5, h6, h7⟩ := h
  obtain ⟨a, cap, rfl⟩ := ownsRow_slice h6
  exact ⟨h1, h2, cell_of_block h5 rfl, a, cap, cell_of_block h5 rfl⟩

theorem RefAt.state (h : RefAt c k w p f L) {i : Nat} (hi : i < L.length) :
    ∃ g cap, w.cell? ⟨p, 1, none⟩ = some (.slice (some ⟨g, 0, none⟩) L.length cap) ∧ w.cell? ⟨g, i, none⟩ = some (.int .i64 (L.getD i 0 : Nat)) ∧ w.frozen? ⟨g, i, none⟩ = false ∧ c g = k ∧ g ≠ p := by
  obtain ⟨h1, h2, h4, v, h5, h6, h7⟩ := h
  have hj : (i64s L)[i]? = some (.int .i64 (L.getD i 0 : Nat)) := by
    simp [i64s, List.getElem?_map, List.getElem?_eq_getElem hi]
  obtain ⟨g, cap, rfl, hc, hf, _, _⟩ := ownsRow_cell1 h6 hj
  exact ⟨g, cap, cell_of_block h5 rfl, hc, hf, h7 g rfl⟩

theorem rnext_nil (w : World) : Calls Try.prog 28 #[.pointer none] w fun e w' => e = .returned (.int .u64 0) ∧ w' = w := by
  go_enter Try.func28, Try.ntmps28
  go_wp2
  go_ret
  exact ⟨rfl, rfl⟩
theorem rnext_cells (p : Nat) (f : Int) (n cap : Nat) (a : Option Addr) (w : World) (h0 : 0 ≤ f) (h2 : f + n ≤ 9223372036854775807)
    (c0 : w.cell? ⟨p, 0, none⟩ = some (.int .u64 f)) (c1 : w.cell? ⟨p, 1, none⟩ = some (.slice a n cap)) :
    Calls Try.prog 28 #[.pointer (some ⟨p, 0, none⟩)] w fun e w' => e = .returned (.int .u64 (f + n)) ∧ ∃ k, w' = w.drewN k := by
  go_enter Try.func28, Try.ntmps28
  go_wp2
  go_quiet (fail)
  go_wp2
  go_ret
  exact ⟨rfl, _, rfl⟩
theorem rnext_at (h : RefAt c k w p f L) :
    Calls Try.prog 28 #[.pointer (some ⟨p, 0, none⟩)] w fun e w' => e = .returned (.int .u64 (f + L.length)) ∧ ∃ n, w' = w.drewN n := by
  obtain ⟨h1, h2, h3, a, cap, h4⟩ := h.parts
  exact rnext_cells p f L.length cap a w (by omega) (by omega) h3 h4

theorem rstate_nil (x : Int) (w : World) : Calls Try.prog 27 #[.pointer none, .int .u64 x] w fun e w' => e = .returned (.int .i64 0) ∧ ∃ n, w' = w.drewN n := by
  go_enter Try.func27, Try.ntmps27
  go_wp2
  go_quiet (fail)
  go_wp2
  go_ret
  exact ⟨rfl, _, rfl⟩
theorem rstate_lo (p : Nat) (f x : Int) (w : World) (hx : x < f) (c0 : w.cell? ⟨p, 0, none⟩ = some (.int .u64 f)) :
    Calls Try.prog 27 #[.pointer (some ⟨p, 0, none⟩), .int .u64 x] w fun e w' => e = .returned (.int .i64 0) ∧ ∃ k, w' = w.drewN k := by
  have hd : decide (x < f) = true := by simp; omega
  go_enter Try.func27, Try.ntmps27
  go_wp2
  go_quiet (fail)
  go_wp2
  go_ret
  exact ⟨rfl, _, rfl⟩
theorem rstate_hi (p : Nat) (f x : Int) (n cap : Nat) (a : Option Addr) (w : World) (h0 : 0 ≤ f) (h2 : f + n ≤ 9223372036854775807) (hx : f + n ≤ x) (hx2 : x < 18446744073709551616)
    (c0 : w.cell? ⟨p, 0, none⟩ = some (.int .u64 f)) (c1 : w.cell? ⟨p, 1, none⟩ = some (.slice a n cap)) :
    Calls Try.prog 27 #[.pointer (some ⟨p, 0, none⟩), .int .u64 x] w fun e w' => e = .returned (.int .i64 0) ∧ ∃ k, w' = w.drewN k := by
  have hd : decide (x < f) = false := by simp; omega
  have hd2 : decide ((n : Int) ≤ x - f) = true := by simp; omega
  go_enter Try.func27, Try.ntmps27
  go_wp2
  go_quiet (fail)
  go_wp2
  go_ret
  exact ⟨rfl, _, rfl⟩
theorem rstate_in (p g : Nat) (f x b : Int) (n cap : Nat) (w : World) (h0 : 0 ≤ f) (h2 : f + n ≤ 9223372036854775807) (hx : f ≤ x) (hx2 : x < f + n)
    (c0 : w.cell? ⟨p, 0, none⟩ = some (.int .u64 f)) (c1 : w.cell? ⟨p, 1, none⟩ = some (.slice (some ⟨g, 0, none⟩) n cap))
    (c3 : w.cell? ⟨g, (x - f).toNat, none⟩ = some (.int .i64 b)) :
    Calls Try.prog 27 #[.pointer (some ⟨p, 0, none⟩), .int .u64 x] w fun e w' => e = .returned (.int .i64 b) ∧ ∃ k, w' = w.drewN k := by
  have hd : decide (x < f) = false := by simp; omega
  have hd2 : decide ((n : Int) ≤ x - f) = false := by simp; omega
  go_enter Try.func27, Try.ntmps27
  go_wp2
  go_quiet (fail)
  go_wp2
  go_quiet (fail)
  go_wp2
  go_ret
  exact ⟨rfl, _, World.drewN_drewN _ _ _⟩
theorem rstate_at (h : RefAt c k w p f L) (x : Int) (hx : x < 18446744073709551616) :
    Calls Try.prog 27 #[.pointer (some ⟨p, 0, none⟩), .int .u64 x] w fun e w' => e = .returned (.int .i64 (stt f L x)) ∧ ∃ n, w' = w.drewN n := by
  obtain ⟨h1, h2, h3, a, cap, h4⟩ := h.parts
  by_cases hx1 : x < f
  · rw [stt_lo hx1]; exact rstate_lo p f x w hx1 h3
  by_cases hx2 : f + L.length ≤ x
  · rw [stt_hi hx2]; exact rstate_hi p f x L.length cap a w (by omega) (by omega) hx2 hx h3 h4
  obtain ⟨i, hi⟩ := Int.eq_ofNat_of_zero_le (show 0 ≤ x - f by omega)
  obtain ⟨g, cap, hc2, hc3, _, _, _⟩ := h.state (i := i) (by omega)
  rw [stt_in (by omega), hi, Int.toNat_natCast]
  exact rstate_in p g f x _ L.length cap w (by omega) (by omega) (by omega) (by omega) h3 hc2 (by rw [hi, Int.toNat_natCast]; exact hc3)

theorem rset_in (p g : Nat) (f x s b : Int) (n cap : Nat) (w : World) (h0 : 0 ≤ f) (h2 : f + n ≤ 9223372036854775807) (hx : f ≤ x) (hx2 : x < f + n) (st : Int) (hst : (st != 1) = false)
    (c0 : w.cell? ⟨p, 0, none⟩ = some (.int .u64 f)) (c1 : w.cell? ⟨p, 1, none⟩ = some (.slice (some ⟨g, 0, none⟩) n cap))
    (c3 : w.cell? ⟨g, (x - f).toNat, none⟩ = some (.int .i64 b)) (f3 : w.frozen? ⟨g, (x - f).toNat, none⟩ = false)
    (hs : Calls Try.prog 27 #[.pointer (some ⟨p, 0, none⟩), .int .u64 x] w fun e w' => e = .returned (.int .i64 st) ∧ ∃ n, w' = w.drewN n) :
    Calls Try.prog 24 #[.pointer (some ⟨p, 0, none⟩), .int .u64 x, .int .i64 s] w fun e w' => e = .returned (.int .i64 0) ∧ ∃ k, w' = (w.setCell ⟨g, (x - f).toNat, none⟩ (.int .i64 s)).drewN k := by
  have HS := Lib.hid hs; clear hs
  go_enter Try.func24, Try.ntmps24
  go_wp2_with (go_at_call 27; refine HS.out.mono ?_; rintro e w1 ⟨rfl, m, rfl⟩)
  go_region
  go_wp2
  go_ret
  exact ⟨rfl, _, rfl⟩

/-- lapidaryref09.End. -/
theorem rend_at (h : RefAt c k w p f L) (x : Int) (hx : x < 18446744073709551616) (s : Nat) :
    Calls Try.prog 24 #[.pointer (some ⟨p, 0, none⟩), .int .u64 x, .int .i64 s] w fun e w' => e = .returned (.int .i64 (endErr f L x)) ∧ RefAt c k w' p f (ended f L x s) ∧ Upd (fun b => c b = k) w w' := by
  by_cases hr : stt f L x = 1
  · have hb : (((stt f L x : Nat) : Int) != 1) = false := by rw [hr]; rfl
    have he : endErr f L x = 0 := by simp [endErr, hr]
    have hL : ended f L x s = L.set (x - f).toNat s := by simp [ended, hr]
    have hlo : f ≤ x := by
      by_cases hx : x < f
      · rw [stt_lo hx] at hr; omega
      · omega
    have hhi : x < f + L.length := by
      by_cases hx : f + L.length ≤ x
      · rw [stt_hi hx] at hr; omega
      · omega
    rw [he, hL]
    obtain ⟨h1, h2, h3, _, _, _⟩ := h.parts
    obtain ⟨g, cap, hc2, hc3, hf3, hg, hgp⟩ := h.state (i := (x - f).toNat) (by omega)
    refine (rset_in p g f x s _ L.length cap w (by omega) (by omega) hlo hhi _ hb h3 hc2 hc3 hf3 (rstate_at h x hx)).mono ?_
    rintro e w' ⟨rfl, n, rfl⟩
    obtain ⟨_, _, h4, v, h5, h6, h7⟩ := h
    have hv : v = .slice (some ⟨g, 0, none⟩) L.length cap := by
      have := cell_of_block h5 (i := 1) rfl
      exact Option.some.inj (this.symm.trans hc2)
    subst hv
    have hS : RefAt c k (w.setCell ⟨g, (x - f).toNat, none⟩ (.int .i64 s)) p f (L.set (x - f).toNat s) := by
      refine ⟨h1, by rw [List.length_set]; exact h2, h4, _, block_setCell_other h5 (fun e => hgp e.symm) _, ?_, h7⟩
      rw [List.length_set]
      have e : i64s (L.set (x - f).toNat s) = (i64s L).set (x - f).toNat (.int .i64 s) := by simp [i64s, List.map_set]
      rw [e]; exact ownsRow_set1 h6 _
    exact ⟨rfl, hS.drewN n, ((Upd.refl _ w).setCell _ (fun _ => hg)).drewN n⟩
  · have hb : (((stt f L x : Nat) : Int) != 1) = true := by rw [bne_iff_ne]; omega
    have he : endErr f L x = 15 := by simp [endErr, hr]
    have hL : ended f L x s = L := by simp [ended, hr]
    rw [he, hL]
    clear hr he hL
    go_enter Try.func24, Try.ntmps24
    go_wp2_with (go_at_call 27; refine (rstate_at h x hx).mono ?_; rintro e w1 ⟨rfl, n, rfl⟩)
    go_ret
    exact ⟨rfl, h.drewN n, Upd.of_drewN n⟩
theorem rend_nil (x s : Int) (w : World) : Calls Try.prog 24 #[.pointer none, .int .u64 x, .int .i64 s] w fun e w' => e = .returned (.int .i64 15) ∧ ∃ n, w' = w.drewN n := by
  go_enter Try.func24, Try.ntmps24
  go_wp2_with (go_at_call 27; refine (rstate_nil x _).mono ?_; rintro e w1 ⟨rfl, n, rfl⟩)
  go_ret
  exact ⟨rfl, n, rfl⟩

theorem rbegin_nil (w : World) : Calls Try.prog 26 #[.pointer none] w fun e w' => e = .returned (.tuple #[.int .u64 0, .int .i64 15]) ∧ w' = w := by
  go_enter Try.func26, Try.ntmps26
  go_wp2
  go_ret2
  exact ⟨rfl, rfl⟩
theorem rbegin_full (h : RefAt c k w p f L) (hf : 1099511627776 < f + L.length) :
    Calls Try.prog 26 #[.pointer (some ⟨p, 0, none⟩)] w fun e w' => e = .returned (.tuple #[.int .u64 0, .int .i64 12]) ∧ ∃ n, w' = w.drewN n := by
  go_enter Try.func26, Try.ntmps26
  go_wp2_with (go_at_call 28; refine (rnext_at h).mono ?_; rintro e w1 ⟨rfl, n, rfl⟩)
  go_ret2
  exact ⟨rfl, _, rfl⟩

theorem RefAt.bump (h : RefAt c k w p f L) (hf : f + L.length ≤ 1099511627776) {v v' : Value} {w1 : World}
    (hv : w.cell? ⟨p, 1, none⟩ = some v) (hown : w1.ownsRow 0 3 1 v' (L.length + 1) (i64s L ++ [.int .i64 1])) (hg : Upd (fun b => v.ownBlock = some b) w w1)
    {c' : Nat → Nat} (hc : ∀ b, b < w.heap.size → c' b = c b) (hn : ∀ g, v'.ownBlock = some g → c' g = k ∧ g ≠ p) :
    RefAt c' k (w1.setCell ⟨p, 1, none⟩ v') p f (L ++ [1]) := by
  obtain ⟨h1, h2, h4, v0, h5, h6, h7⟩ := h
  have e0 : v0 = v := by
    have := cell_of_block h5 (i := 1) rfl
    exact Option.some.inj (this.symm.trans hv)
  subst e0
  have h5' := hg.heap h5 (fun e => (h7 p e).2 rfl)
  refine ⟨h1, by simp; omega, (hc p (lt_of_block h5)).trans h4, v', ?_, ?_, hn⟩
  · rw [block_setCell h5' v']; simp
  · have e1 : (L ++ [1]).length = L.length + 1 := by simp
    have e : i64s (L ++ [1]) = i64s L ++ [.int .i64 1] := by simp [i64s]
    rw [e1, e]
    have hu : Upd (fun b => b = p) w1 (w1.setCell ⟨p, 1, none⟩ v') := Upd.setCell (a := ⟨p, 1, none⟩) (Upd.refl (fun b => b = p) w1) _ (fun _ => rfl)
    exact ownsRow_upd hown hu (fun b hb => (hn b hb).2)

set_option maxHeartbeats 400000 in
set_option maxRecDepth 100000 in
/-- lapidaryref09.Begin. -/
theorem rbegin_at (h : RefAt c k w p f L) (hf : f + L.length ≤ 1099511627776) :
    Calls Try.prog 26 #[.pointer (some ⟨p, 0, none⟩)] w fun e w' => e = .returned (.tuple #[.int .u64 (f + L.length), .int .i64 0]) ∧
      RefAt (col c w.heap.size k) k w' p f (L ++ [1]) ∧ Upd (fun b => c b = k) w w' := by
  obtain ⟨i0, hi, hz0, hz1, hz2⟩ := info_parts Try.info3
  obtain ⟨h1, h4, v, hc2, hf2, hown, h7⟩ : 1 ≤ f ∧ c p = k ∧ ∃ v, w.cell? ⟨p, 1, none⟩ = some v ∧ w.frozen? ⟨p, 1, none⟩ = false ∧ w.ownsRow 0 3 1 v L.length (i64s L) ∧ ∀ g, v.ownBlock = some g → c g = k ∧ g ≠ p := by
    obtain ⟨h1, h2, h4, v, h5, h6, h7⟩ := h; exact ⟨h1, h4, v, cell_of_block h5 rfl, free_of_block h5, h6, h7⟩
  have hl : (L.length : Int) ≤ 1099511627776 := by omega
  have hp := h.lt
  have H4 := Lib.hid h4; clear h4
  have H7 := Lib.hid h7; clear h7
  go_enter Try.func26, Try.ntmps26
  go_wp2_with (first
    | (go_at_call 28; refine (rnext_at h).mono ?_; rintro e w1 ⟨rfl, n, rfl⟩)
    | (at_builtin; refine wpList_append_mine rfl (.tmp 15) (.tmp 16) 127 rfl 0 3 i0 (.int .i64 0) 1 8 Try.underlying127 hi hz0 hz1 hz2 rfl (by decide) _ _ _ rfl (World.ownsRow.alloc (ownsRow_upd (S := fun _ => False) hown (Upd.of_drewN _) (fun _ _ x => x)) _) ⟨w.heap.size, 0, none⟩ 1 1 [.int .i64 1] rfl rfl ?c1 ?c2 ?c3 ?c4 ?c5 ?_))
  case c1 => exact cell_one_new _ _ _
  case c2 => intro u hu; simp at hu; subst hu; rfl
  case c3 => unfold maxLen; omega
  case c4 => omega
  case c5 => omega
  intro v' w1 hown' hupd hnew
  obtain ⟨hlog, hu1, he3⟩ : RefAt (col c w.heap.size k) k (w1.setCell ⟨p, 1, none⟩ v') p f (L ++ [1]) ∧ Upd (fun b => c b = k) w w1 ∧ w1.frozen? ⟨p, 1, none⟩ = false ∧ w1.cell? ⟨p, 1, none⟩ = some v := by
    have hU0 : Upd (fun b => v.ownBlock = some b) w w1 := Upd.trans (Upd.alloc (Upd.of_drewN _) _) hupd
    have hpv : ¬ v.ownBlock = some p := fun e => (H7.out p e).2 rfl
    refine ⟨RefAt.bump h hf hc2 hown' hU0 (fun b hb => col_old hb) ?_, hU0.mono (fun b _ e => (H7.out b e).1), (World.frozen?_of_block (hU0.block p hp hpv)).trans hf2, hU0.cell hc2 hpv⟩
    intro g hg
    rcases hnew g hg with e | e
    · have hlt : g < w.heap.size := (World.ownsRow.lt hown g e).2
      rw [col_old hlt]; exact H7.out g e
    · have hlt : w.heap.size + 1 ≤ g := by simpa using e
      exact ⟨col_new (by omega), by omega⟩
  obtain ⟨g, cap, rfl, _, _, _⟩ := ownsRow_some hown' (by omega)
  clear hupd hnew hown' hc2 hf2 hown
  go_wp2
  go_ret2
  exact ⟨rfl, hlog, Upd.setCell hu1 _ (fun _ => H4.out)⟩

theorem rnew_bad (f : Int) (w : World) (h : f = 0 ∨ 1099511627776 < f) : Calls Try.prog 22 #[.int .u64 f] w fun e w' => e = .returned (.tuple #[.pointer none, .int .i64 1]) ∧ w' = w := by
  by_cases h0 : f = 0
  · subst h0
    go_enter Try.func22, Try.ntmps22
    go_wp2
    go_ret2
    exact ⟨rfl, rfl⟩
  · have hh : 1099511627776 < f := by omega
    have hb : decide (f < 1) = false := by simp; omega
    clear h h0
    go_enter Try.func22, Try.ntmps22
    go_wp2
    go_ret2
    exact ⟨rfl, rfl⟩
theorem rnew_ok (f : Int) (w : World) (h : 1 ≤ f) (h2 : f ≤ 1099511627776) (c : Nat → Nat) (k : Nat) :
    Calls Try.prog 22 #[.int .u64 f] w fun e w' => e = .returned (.tuple #[.pointer (some ⟨w.heap.size, 0, none⟩), .int .i64 0]) ∧
      RefAt (col c w.heap.size k) k w' w.heap.size f [] ∧ Below w.heap.size w w' := by
  have hb : decide (f < 1) = false := by simp; omega
  go_enter Try.func22, Try.ntmps22
  go_wp2
  go_ret2
  exact ⟨rfl, ⟨h, by simp; omega, col_new (Nat.le_refl _), .slice none 0 0, heap_alloc_new w _, World.ownsRow_nil _ _ _ _, fun g hg => by simp [Value.ownBlock] at hg⟩, (Below.refl _ _).alloc (Nat.le_refl _) _⟩

theorem rall_nil (w : World) : Calls Try.prog 30 #[.pointer none] w fun e w' => e = .returned (.slice none 0 0) ∧ w' = w := by
  go_enter Try.func30, Try.ntmps30
  go_wp2
  go_ret
  exact ⟨rfl, rfl⟩

set_option maxHeartbeats 400000 in
set_option maxRecDepth 100000 in
/-- lapidaryref09.All. -/
theorem rall_at (h : RefAt c k w p f L) :
    Calls Try.prog 30 #[.pointer (some ⟨p, 0, none⟩)] w fun e w' => ∃ v, e = .returned v ∧ w'.ownsRow w.heap.size 23 1 v (running f L).length (u64s (running f L)) ∧ Below w.heap.size w w' := by
  obtain ⟨i0, hi, hz0, hz1, hz2⟩ := info_parts Try.info23
  obtain ⟨h1, h2, hc0, a, cap, hc1⟩ := h.parts
  have hpl := h.lt
  have hll : (L.length : Int) ≤ 1099511627776 := by omega
  go_enter Try.func30, Try.ntmps30
  go_wp2_with fail
  go_loopw [3, 13] (fun v i wr => ∃ n : Nat, n ≤ L.length ∧ i = .int .i64 n ∧ wr.ownsRow w.heap.size 23 1 v (runTo f L n).length (u64s (runTo f L n)) ∧ Below w.heap.size w wr) (fun _ i _ => L.length - (intOf i).toNat)
  case atStart => exact ⟨0, Nat.zero_le _, rfl, World.ownsRow_nil _ _ _ _, Below.refl _ _⟩
  case round =>
    obtain ⟨n, hn, rfl, hown, hB⟩ := hrel
    have hc0' := (hB.cell (p := ⟨p, 0, none⟩) hpl).trans hc0
    have hwz := hB.size
    by_cases hlt : n < L.length
    · obtain ⟨g, cap', hg1, hg2, _, _, _⟩ := (h.same hB).state hlt
      have hga : a = some ⟨g, 0, none⟩ := by
        have := (hB.cell (p := ⟨p, 1, none⟩) hpl).trans hc1
        have := Option.some.inj (this.symm.trans hg1)
        simp only [Value.slice.injEq] at this; exact this.1
      subst hga
      clear hg1 hc1
      have hsu := runTo_succ f L n
      have hle := runTo_le f L n
      by_cases hr : L.getD n 0 = 1
      · rw [if_pos hr] at hsu
        have hb : (((L.getD n 0 : Nat) : Int) == 1) = true := by rw [hr]; rfl
        have HS := Lib.hid hsu; clear hsu hr
        obtain ⟨y, hy⟩ : ∃ y, y = L.getD n 0 := ⟨_, rfl⟩
        rw [← hy] at hg2 hb
        clear hy
        go_wp2_with (at_builtin; refine wpList_append_mine rfl (.tmp 20) (.tmp 28) 30 rfl w.heap.size 23 i0 (.int .u64 0) 1 8 Try.underlying30 hi hz0 hz1 hz2 rfl (by decide) _ _ _ rfl (World.ownsRow.alloc hown _) ⟨wr.heap.size, 0, none⟩ 1 1 [.int .u64 (f + n)] rfl rfl ?c1 ?c2 ?c3 ?c4 ?c5 ?_)
        case c1 => exact cell_one_new _ _ _
        case c2 => intro u hu; simp at hu; subst hu; rfl
        case c3 => unfold maxLen; omega
        case c4 => omega
        case c5 => simp; omega
        intro v' w1 hown' hupd _
        have hu1 : Below w.heap.size wr w1 := Upd.below (Upd.trans (Upd.alloc (Upd.refl _ _) _) hupd) hwz (fun b hb e => by have := (World.ownsRow.lt hown b e).1; omega)
        clear hupd hown
        go_wp2
        go_roundw
        case rel => exact ⟨n + 1, by omega, by go_num, by rw [HS.out]; simpa [u64s] using hown', hB.trans hu1⟩
        case measure => simp [intOf]; omega
      · rw [if_neg hr, List.append_nil] at hsu
        have hb : (((L.getD n 0 : Nat) : Int) == 1) = false := by rw [beq_eq_false_iff_ne]; omega
        have HS := Lib.hid hsu; clear hsu hr
        obtain ⟨y, hy⟩ : ∃ y, y = L.getD n 0 := ⟨_, rfl⟩
        rw [← hy] at hg2 hb
        clear hy
        go_wp2
        go_roundw
        case rel => exact ⟨n + 1, by omega, by go_num, by rw [HS.out]; exact hown, hB⟩
        case measure => simp [intOf]; omega
    · have hnl : n = L.length := by omega
      subst hnl
      go_wp2
      go_ret
      exact ⟨_, rfl, hown, hB⟩

/-- lapidaryref09.Same, of two that hold the same. -/
theorem same_eq (w : World) (b1 b2 : Nat) (v1 v2 : Value) (xs : List Int) (hx : xs.length ≤ 1099511627776) (h1 : w.ownsRow b1 23 1 v1 xs.length (u64s xs)) (h2 : w.ownsRow b2 23 1 v2 xs.length (u64s xs)) :
    Calls Try.prog 29 #[v1, v2] w fun e w' => e = .returned (.bool true) ∧ ∃ n, w' = w.drewN n := by
  obtain ⟨a1, cap1, rfl⟩ := ownsRow_slice h1
  obtain ⟨a2, cap2, rfl⟩ := ownsRow_slice h2
  go_enter Try.func29, Try.ntmps29
  go_wp2_with fail
  go_loopw [13] (fun i wr => ∃ n m : Nat, n ≤ xs.length ∧ i = .int .i64 n ∧ wr = w.drewN m) (fun i _ => xs.length - (intOf i).toNat)
  case atStart => exact ⟨0, 0, Nat.zero_le _, rfl, rfl⟩
  case round =>
    obtain ⟨n, m, hn, rfl, rfl⟩ := hrel
    by_cases hlt : n < xs.length
    · have hj : (u64s xs)[n]? = some (.int .u64 (xs[n])) := by simp [u64s, hlt]
      obtain ⟨g1, q1, e1, d1, _, _, _⟩ := ownsRow_cell1 h1 hj
      obtain ⟨g2, q2, e2, d2, _, _, _⟩ := ownsRow_cell1 h2 hj
      simp only [Value.slice.injEq] at e1 e2
      obtain ⟨rfl, _, rfl⟩ := e1
      obtain ⟨rfl, _, rfl⟩ := e2
      clear hj
      obtain ⟨y, hy⟩ : ∃ y, y = xs[n] := ⟨_, rfl⟩
      rw [← hy] at d1 d2
      clear hy
      have hb : (y != y) = false := by simp
      go_wp2
      go_quiet (fail)
      go_wp2
      go_roundw
      case rel => exact ⟨n + 1, _, by omega, by go_num, rfl⟩
      case measure => simp [intOf]; omega
    · have hnl : n = xs.length := by omega
      subst hnl
      go_wp2
      go_ret
      exact ⟨rfl, m, rfl⟩
end
end Go.Proofs.Ytdohkjpapmkhjaa
