/-
  THE BOOK: CreateTable: of any book, log, snapshot, name.
-/
import Derived.Test.YtdohkjpapmkhjaaMake
namespace Go.Proofs.Ytdohkjpapmkhjaa
open Go.RowKit

theorem row_block {w : World} {base e size n : Nat} {v : Value} {xs : List Value} (h : w.ownsRow base e size v n xs) {g : Nat} (hg : v.ownBlock = some g) : ∃ cur, w.heap[g]? = some (.cells cur e (0, 0)) := by
  rcases h.2 with ⟨rfl, _⟩ | ⟨g1, cap1, cur1, rfl, _, k1, _⟩
  · cases hg
  · simp only [Value.ownBlock, Option.some.injEq] at hg
    subst hg
    exact ⟨cur1, k1⟩
theorem block_ne {w : World} {b b' T T' : Nat} {x y : Array Value} {f f' : Nat × Nat} (h : w.heap[b]? = some (.cells x T f)) (h' : w.heap[b']? = some (.cells y T' f')) (hT : T ≠ T') : b ≠ b' := fun e => by
  subst e
  rw [h] at h'
  simp at h'
  exact hT h'.2.1

theorem Try.info140 : (Try.prog.info? 140).map (fun i => (i.zero, i.size, i.bytes)) = some (some (.pointer none), 1, 8) := by kernel_rfl

section
variable {c cl : Nat → Nat} {k kl p pl : Nat} {w w' : World} {tv iv cv : Value} {T : List (Nat × Ent × Value)} {I : List (Nat × Ent × Int)} {last : Int} {f : Int} {L : List Nat}

/-- A step that writes the tables' slice and the book's own block alone. -/
theorem BookAt.grow (h : BookAt c k w p tv iv T I last) {v' cv : Value} {e : Ent} {bt : Nat} (hT : T.length < 16)
    (u : Upd (fun b => b = p ∨ tv.ownBlock = some b) w w') (hblk : w'.heap[p]? = some (.cells #[v', iv, .int .u64 last] 137 (0, 0)))
    (hrow : w'.ownsRow 0 140 1 v' (T.length + 1) (ptrs (T.map (·.1)) ++ [.pointer (some ⟨bt, 0, none⟩)])) (hv' : ∀ g, v'.ownBlock = some g → c g = k)
    (ht : TabAt w' (bt, e, cv)) (hbt : c bt = k) (hcv : ∀ g, cv.ownBlock = some g → c g = k) (hnew : ∀ t ∈ T, t.1 ≠ bt) :
    BookAt c k w' p v' iv (T ++ [(bt, e, cv)]) I last := by
  have hb := h.blk
  have ne1 : ∀ g, iv.ownBlock = some g → ¬ (g = p ∨ tv.ownBlock = some g) := fun g hg e => by
    obtain ⟨cu, k1⟩ := row_block h.irow hg
    rcases e with e | e
    · exact block_ne k1 hb (by decide) e
    · exact rows_apart h.irow h.trow (by decide) g hg e
  have ne2 : ∀ {b X : Nat} {x : Array Value}, w.heap[b]? = some (.cells x X (0, 0)) → X ≠ 137 → X ≠ 140 → ¬ (b = p ∨ tv.ownBlock = some b) := fun hx h1 h2 e => by
    rcases e with e | e
    · exact block_ne hx hb h1 e
    · obtain ⟨cu, k1⟩ := row_block h.trow e
      exact block_ne hx k1 h2 rfl
  refine ⟨hblk, ?_, ownsRow_upd h.irow u ne1, h.cp, hv', h.ci, fun t hm => ?_, fun t hm => ⟨u.heap (h.inds t hm).1 (ne2 (h.inds t hm).1 (by decide) (by decide)), (h.inds t hm).2⟩, ?_, h.ionce, by simp; omega, h.ilen, h.lo, h.hi⟩
  · rw [List.length_append, List.map_append]
    simpa [ptrs, ptr] using hrow
  · rcases List.mem_append.1 hm with hm | hm
    · refine ⟨⟨u.heap (h.tabs t hm).1.1 (ne2 (h.tabs t hm).1.1 (by decide) (by decide)), (h.tabs t hm).1.2.upd u (fun b e1 => ?_)⟩, (h.tabs t hm).2⟩
      obtain ⟨cu, k1⟩ := row_block (h.tabs t hm).1.2 e1
      exact ne2 k1 (by decide) (by decide)
    · obtain rfl := List.mem_singleton.1 hm
      exact ⟨ht, hbt, hcv⟩
  · rw [List.map_append, List.nodup_append]
    refine ⟨h.tonce, by simp, fun a ha b hb2 e => ?_⟩
    obtain ⟨t, hmt, rfl⟩ := List.mem_map.1 ha
    have hbb : b = bt := by simpa using hb2
    exact hnew t hmt (e.trans hbb)

set_option maxHeartbeats 2000000 in
set_option maxRecDepth 100000 in
/-- CreateTable, where the text is no name. -/
theorem create_form (_h : BookAt c k w p tv iv T I last) {s : Snp} {rv : Value} (hr : Run w rv s.run) (name : ByteArray) (hsz : name.size ≤ 4611686018427387904) (_hc : ColsAt w cv) (hn : isName name = false) :
    Calls Try.prog 48 #[.pointer (some ⟨p, 0, none⟩), .pointer (some ⟨pl, 0, none⟩), s.val rv, .string name, cv] w fun r w' => r = .returned (.tuple #[.int .u64 0, .int .i64 3]) ∧ Below w.heap.size w w' := by
  have hal : ∀ o, Below w.heap.size w (w.alloc o) := fun o => (Below.refl _ _).alloc (Nat.le_refl _) _
  have hnm := fun w' => name_any name w' hsz
  rw [hn] at hnm
  obtain ⟨own, xmin, xmax, run⟩ := s
  unfold Snp.val
  obtain ⟨ra, rc, hrv⟩ := ownsRow_slice hr.1
  subst hrv
  simp only
  have HNM := Lib.hid hnm
  clear hnm hn hr
  go_enter Try.func48, Try.ntmps48
  go_wp2_with fail
  refine (HNM.out _).mono ?_
  rintro r w1 ⟨rfl, hk1⟩
  go_wp2_with fail
  go_ret2
  exact ⟨rfl, (hal _).trans (hk1.mono (hal (.cells #[.int .u64 own, .int .u64 xmin, .int .u64 xmax, .slice ra run.length rc] 66)).size)⟩

set_option maxHeartbeats 2000000 in
set_option maxRecDepth 100000 in
/-- CreateTable, where the name is not free. -/
theorem create_taken (h : BookAt c k w p tv iv T I last) (hl : LogAt cl kl w pl f L) {s : Snp} {rv : Value} (hr : Run w rv s.run) (name : ByteArray) (hsz : name.size ≤ 4611686018427387904) (hc : ColsAt w cv) (hn : isName name = true)
    (E : Int) (hE : takenE f L s name ((ents T I).map (·.2)) 0 = E) (hE0 : E ≠ 0) :
    Calls Try.prog 48 #[.pointer (some ⟨p, 0, none⟩), .pointer (some ⟨pl, 0, none⟩), s.val rv, .string name, cv] w fun r w' => r = .returned (.tuple #[.int .u64 0, .int .i64 E]) ∧ Below w.heap.size w w' := by
  have hnm := fun w' => name_any name w' hsz
  rw [hn] at hnm
  have hri : ∀ w', Below w.heap.size w w' → Calls Try.prog 63 #[cv] w' fun r w'' => r = .returned (.bool true) ∧ Below w'.heap.size w' w'' := fun w' hb => right_at (hc.upd (S := fun _ => False) (Upd.same hb) (fun _ _ x => x))
  have hta : ∀ w', Below w.heap.size w w' → Calls Try.prog 64 #[.pointer (some ⟨p, 0, none⟩), .pointer (some ⟨pl, 0, none⟩), s.val rv, .string name] w' fun r w'' => r = .returned (.int .i64 E) ∧ Below w'.heap.size w' w'' := fun w' hb => by
    have := taken_at (h.same hb) (hl.same hb) (hr.same hb) name
    rw [hE] at this; exact this
  obtain ⟨g, cap, rfl, _, _⟩ := hc.cells
  obtain ⟨own, xmin, xmax, run⟩ := s
  unfold Snp.val at hta ⊢
  obtain ⟨ra, rc, hrv⟩ := ownsRow_slice hr.1
  subst hrv
  simp only at hta ⊢
  have hrl := hr.2
  have hb : (E != 0) = true := by rw [bne_iff_ne]; exact hE0
  have HNM := Lib.hid hnm; have HRI := Lib.hid hri; have HTA := Lib.hid hta
  have hal : Below w.heap.size w (w.alloc (.cells #[.int .u64 own, .int .u64 xmin, .int .u64 xmax, .slice ra run.length rc] 66)) := (Below.refl _ _).alloc (Nat.le_refl _) _
  have hH := heap_new1 w (.cells #[.int .u64 own, .int .u64 xmin, .int .u64 xmax, .slice ra run.length rc] 66)
  clear hnm hn hr hri hta hE hE0 h hl hc
  go_enter Try.func48, Try.ntmps48
  go_wp2_with fail
  refine (HNM.out _).mono ?_
  rintro r w1 ⟨rfl, hk1⟩
  have hB1 := hal.trans (hk1.mono hal.size)
  go_wp2_with fail
  refine (HRI.out _ hB1).mono ?_
  rintro r w2 ⟨rfl, hk2⟩
  have hB2 := hB1.trans (hk2.mono hB1.size)
  have hk12 := hk1.trans (hk2.mono hk1.size)
  have q0 := keeper hk12 (cell_of_block hH (i := 0) rfl)
  have q1 := keeper hk12 (cell_of_block hH (i := 1) rfl)
  have q2 := keeper hk12 (cell_of_block hH (i := 2) rfl)
  have q3 := keeper hk12 (cell_of_block hH (i := 3) rfl)
  go_wp2_with fail
  refine (HTA.out _ hB2).mono ?_
  rintro r w3 ⟨rfl, hk3⟩
  go_wp2_with fail
  go_ret2
  exact ⟨rfl, hB2.trans (hk3.mono hB2.size)⟩

set_option maxHeartbeats 4000000 in
set_option maxRecDepth 100000 in
/-- CreateTable, where there is room. -/
theorem create_ok (h : BookAt c k w p tv iv T I last) (hl : LogAt cl kl w pl f L) {s : Snp} {rv : Value} (hr : Run w rv s.run) (name : ByteArray) (hsz : name.size ≤ 4611686018427387904) (hc : ColsAt w cv) (hn : isName name = true)
    (hE : takenE f L s name ((ents T I).map (·.2)) 0 = 0) (hT : T.length < 16) (hlast : last < 1099511627776) :
    Calls Try.prog 48 #[.pointer (some ⟨p, 0, none⟩), .pointer (some ⟨pl, 0, none⟩), s.val rv, .string name, cv] w fun r w' => r = .returned (.tuple #[.int .u64 (last + 1), .int .i64 0]) ∧
      ∃ v' bt cv', BookAt (col c w.heap.size k) k w' p v' iv (T ++ [(bt, ⟨last + 1, name, s.own, 0⟩, cv')]) I (last + 1) ∧ Upd (fun b => c b = k) w w' := by
  obtain ⟨i0, hi, hz0, hz1, hz2⟩ := info_parts Try.info140
  have hnm := fun w' => name_any name w' hsz
  rw [hn] at hnm
  have hcw : ∀ w', Below w.heap.size w w' → ColsAt w' cv := fun w' hb => hc.upd (S := fun _ => False) (Upd.same hb) (fun _ _ x => x)
  have hri : ∀ w', Below w.heap.size w w' → Calls Try.prog 63 #[cv] w' fun r w'' => r = .returned (.bool true) ∧ Below w'.heap.size w' w'' := fun w' hb => right_at (hcw w' hb)
  have hta : ∀ w', Below w.heap.size w w' → Calls Try.prog 64 #[.pointer (some ⟨p, 0, none⟩), .pointer (some ⟨pl, 0, none⟩), s.val rv, .string name] w' fun r w'' => r = .returned (.int .i64 0) ∧ Below w'.heap.size w' w'' := fun w' hb => by
    have := taken_at (h.same hb) (hl.same hb) (hr.same hb) name
    rw [hE] at this; exact this
  have h' : BookAt (col c w.heap.size k) k w p tv iv T I last := h.recol (fun b hb => col_old hb)
  have hfr : ∀ w', Below w.heap.size w w' → Calls Try.prog 65 #[.pointer (some ⟨p, 0, none⟩), s.val rv, .string name] w' fun r w'' => r = .returned (.agg #[.int .u64 (last + 1), .string name, .int .u64 s.own, .int .u64 0]) ∧ BookAt (col c w.heap.size k) k w'' p tv iv T I (last + 1) ∧ Upd (fun b => b = p) w' w'' := fun w' hb =>
    fresh_at (h'.same hb) hlast (hr.same hb) name
  obtain ⟨g, cap, hcv, _, _⟩ := hc.cells
  subst hcv
  have hbl3 : ∀ w', Below w.heap.size w w' → ∃ ta tc, tv = .slice ta T.length tc ∧ w'.cell? ⟨p, 0, none⟩ = some (.slice ta T.length tc) := fun w' hb => by
    obtain ⟨ta, tc, e⟩ := ownsRow_slice h.trow
    exact ⟨ta, tc, e, by rw [← e]; exact cell_of_block (h.same hb).blk rfl⟩
  have hpb := lt_of_block h.blk
  obtain ⟨own, xmin, xmax, run⟩ := s
  unfold Snp.val at hta hfr ⊢
  obtain ⟨ra, rc, hrv⟩ := ownsRow_slice hr.1
  subst hrv
  simp only at hta hfr ⊢
  have hrl := hr.2
  have HNM := Lib.hid hnm; have HRI := Lib.hid hri; have HTA := Lib.hid hta; have HFR := Lib.hid hfr; have HCW := Lib.hid hcw; have HBL := Lib.hid hbl3; have HP := Lib.hid h'; have HC := Lib.hid h.cp; have HCT := Lib.hid h.ct
  have HTL := Lib.hid (fun b (hb : tv.ownBlock = some b) => (World.ownsRow.lt h.trow b hb).2)
  have hal : Below w.heap.size w (w.alloc (.cells #[.int .u64 own, .int .u64 xmin, .int .u64 xmax, .slice ra run.length rc] 66)) := (Below.refl _ _).alloc (Nat.le_refl _) _
  have hH := heap_new1 w (.cells #[.int .u64 own, .int .u64 xmin, .int .u64 xmax, .slice ra run.length rc] 66)
  clear hnm hn hr hri hta hE hfr hcw hbl3 h' h hl hc
  go_enter Try.func48, Try.ntmps48
  go_wp2_with fail
  refine (HNM.out _).mono ?_
  rintro r w1 ⟨rfl, hk1⟩
  have hB1 := hal.trans (hk1.mono hal.size)
  go_wp2_with fail
  refine (HRI.out _ hB1).mono ?_
  rintro r w2 ⟨rfl, hk2⟩
  have hB2 := hB1.trans (hk2.mono hB1.size)
  have hk12 := hk1.trans (hk2.mono hk1.size)
  have q0 := keeper hk12 (cell_of_block hH (i := 0) rfl)
  have q1 := keeper hk12 (cell_of_block hH (i := 1) rfl)
  have q2 := keeper hk12 (cell_of_block hH (i := 2) rfl)
  have q3 := keeper hk12 (cell_of_block hH (i := 3) rfl)
  go_wp2_with fail
  refine (HTA.out _ hB2).mono ?_
  rintro r w3 ⟨rfl, hk3⟩
  have hB3 := hB2.trans (hk3.mono hB2.size)
  obtain ⟨ta, tc, htv, k3⟩ := HBL.out _ hB3
  have r0 := keeper hk3 q0
  have r1 := keeper hk3 q1
  have r2 := keeper hk3 q2
  have r3 := keeper hk3 q3
  have hT' : ¬ (16 : Int) ≤ (T.length : Int) := by omega
  have hc3 := HCW.out _ hB3
  clear q0 q1 q2 q3 hk1 hk2 hk12 hk3 hB1 hB2 hal hH
  go_wp2_with fail
  refine (HFR.out _ hB3).mono ?_
  rintro r w4 ⟨rfl, h4, u4⟩
  have hB3p := (HP.out.same hB3).blk
  have hc4 := hc3.upd u4 (fun b hb e => by
    obtain ⟨cu, k1⟩ := row_block hc3 hb
    exact block_ne k1 hB3p (by decide) e)
  clear r0 r1 r2 r3 k3 hc3 hB3p
  go_wp2_with fail
  refine (clone_at hc4).mono ?_
  rintro r w5 ⟨cv', rfl, hcv5, hcvn, hk5⟩
  have h5 := h4.same hk5
  have hz3 := hB3.size
  have hz4 := u4.size
  have hz5 := hk5.size
  obtain ⟨g5, cap5, hcv5e, _, _⟩ := hcv5.cells
  have HCV5 := Lib.hid hcv5; have HCVN := Lib.hid hcvn
  subst hcv5e
  subst htv
  have hb5 := h5.blk
  have k5 : w5.cell? ⟨p, 0, none⟩ = some (.slice ta T.length tc) := cell_of_block hb5 rfl
  have f5 : w5.frozen? ⟨p, 0, none⟩ = false := free_of_block hb5
  have hrow5 := h5.trow
  have hal6 : Below w5.heap.size w5 (w5.alloc (.cells #[.int .u64 (last + 1), .string name, .int .u64 own, .int .u64 0, .slice (some ⟨g5, 0, none⟩) 1 cap5] 149)) := (Below.refl _ _).alloc (Nat.le_refl _) _
  have k6 : (w5.alloc (.cells #[.int .u64 (last + 1), .string name, .int .u64 own, .int .u64 0, .slice (some ⟨g5, 0, none⟩) 1 cap5] 149)).cell? ⟨p, 0, none⟩ = some (.slice ta T.length tc) := keeper hal6 k5
  have hrow7 := World.ownsRow.alloc (World.ownsRow.alloc hrow5 (.cells #[.int .u64 (last + 1), .string name, .int .u64 own, .int .u64 0, .slice (some ⟨g5, 0, none⟩) 1 cap5] 149)) (.cells #[.pointer (some ⟨w5.heap.size, 0, none⟩)] 140)
  have HH5 := Lib.hid h5
  have HROW := Lib.hid hrow7
  have HTLB := Lib.hid (show ∀ b, (Value.slice ta T.length tc).ownBlock = some b → b < w5.heap.size from fun b hb => (World.ownsRow.lt hrow5 b hb).2)
  have hH6 := heap_new1 w5 (.cells #[.int .u64 (last + 1), .string name, .int .u64 own, .int .u64 0, .slice (some ⟨g5, 0, none⟩) 1 cap5] 149)
  clear h5 h4 hcv5 hcvn hc4 hrow7 hrow5 k5 f5 hal6
  go_wp2_with (at_builtin; refine wpList_append_mine rfl (.tmp 52) (.tmp 54) 134 rfl 0 140 i0 (.pointer none) 1 8 Try.underlying134 hi hz0 hz1 hz2 rfl (by decide) _ _ _ rfl HROW.out ⟨w5.heap.size + 1, 0, none⟩ 1 1 [.pointer (some ⟨w5.heap.size, 0, none⟩)] rfl rfl ?c1 ?c2 ?c3 ?c4 ?c5 ?_)
  case c1 => first | exact fun j u h => h | exact news_block (cs := [.pointer (some ⟨w5.heap.size, 0, none⟩)]) (heap_new2 w5 _ _)
  case c2 => intro u hu; simp at hu; subst hu; rfl
  case c3 => unfold maxLen; omega
  case c4 => omega
  case c5 => omega
  intro v' w8 hown' hupd hnew

  have hu58 : Upd (fun b => (Value.slice ta T.length tc).ownBlock = some b) w5 w8 := (((Upd.refl _ w5).alloc (.cells #[.int .u64 (last + 1), .string name, .int .u64 own, .int .u64 0, .slice (some ⟨g5, 0, none⟩) 1 cap5] 149)).alloc (.cells #[.pointer (some ⟨w5.heap.size, 0, none⟩)] 140)).trans hupd
  have hpn : ¬ (Value.slice ta T.length tc).ownBlock = some p := fun e => by
    obtain ⟨cu, k1⟩ := row_block HH5.out.trow e
    exact block_ne k1 hb5 (by decide) rfl
  have hb8 := hu58.heap hb5 hpn
  have k8 : w8.cell? ⟨p, 0, none⟩ = some (.slice ta T.length tc) := cell_of_block hb8 rfl
  have f8 : w8.frozen? ⟨p, 0, none⟩ = false := free_of_block hb8
  have hH8 : w8.heap[w5.heap.size]? = some (.cells #[.int .u64 (last + 1), .string name, .int .u64 own, .int .u64 0, .slice (some ⟨g5, 0, none⟩) 1 cap5] 149 (0, 0)) := hupd.heap (block_alloc hH6 _) (fun e => by have := HTLB.out _ e; omega)
  obtain ⟨g8, cap8, rfl, _, _, _⟩ := ownsRow_some hown' (by omega)
  have t0 : w8.cell? ⟨w5.heap.size, 0, none⟩ = some (.int .u64 (last + 1)) := cell_of_block hH8 rfl
  clear hupd k6
  have hus : Upd (fun b => b = p) w8 (w8.setCell ⟨p, 0, none⟩ (.slice (some ⟨g8, 0, none⟩) (T.length + 1) cap8)) := (Upd.refl _ w8).setCell (a := ⟨p, 0, none⟩) _ (fun _ => rfl)
  have hp5 : w5.heap.size ≠ p := by omega
  have t0' := hus.cell t0 hp5
  go_wp2_with fail
  go_ret2
  have hb9 : (w8.setCell ⟨p, 0, none⟩ (.slice (some ⟨g8, 0, none⟩) (T.length + 1) cap8)).heap[p]? = some (.cells #[.slice (some ⟨g8, 0, none⟩) (T.length + 1) cap8, iv, .int .u64 (last + 1)] 137 (0, 0)) := by rw [block_setCell hb8]; rfl
  obtain ⟨w9, hw9⟩ : ∃ w9, w9 = w8.setCell ⟨p, 0, none⟩ (.slice (some ⟨g8, 0, none⟩) (T.length + 1) cap8) := ⟨_, rfl⟩
  rw [← hw9] at hus hb9 ⊢
  have hne : ∀ g, (Value.slice (some ⟨g8, 0, none⟩) (T.length + 1) cap8).ownBlock = some g → ¬ g = p := fun g hg e => by
    subst e
    obtain ⟨cu, k1⟩ := row_block hown' hg
    exact block_ne k1 hb8 (by decide) rfl
  have hu59 : Upd (fun b => b = p ∨ (Value.slice ta T.length tc).ownBlock = some b) w5 w9 := (hu58.mono (fun b _ e => .inr e)).trans (hus.mono (fun b _ e => .inl e))
  have hcn : ∀ b, w.heap.size ≤ b → col c w.heap.size k b = k := fun b hb => col_new hb
  have hkp := HC.out
  have huw : Upd (fun b => c b = k) w w9 := by
    have u1 : Upd (fun b => c b = k) w w3 := Upd.of_below hB3 (fun b hb e => absurd e (by omega))
    have u2 : Upd (fun b => c b = k) w w4 := u1.trans_new u4 (fun b _ e => by rw [e]; exact hkp)
    have u3 : Upd (fun b => c b = k) w w5 := u2.trans_new (Upd.same (S := fun _ => False) hk5) (fun b _ e => e.elim)
    exact u3.trans_new hu59 (fun b _ e => by rcases e with e | e; rw [e]; exact hkp; exact HCT.out b e)
  refine ⟨rfl, _, w5.heap.size, .slice (some ⟨g5, 0, none⟩) 1 cap5, HH5.out.grow hT hu59 hb9 (ownsRow_upd hown' hus hne) (fun g hg => ?_) ⟨hus.heap hH8 hp5, ?_⟩ (hcn _ (by omega)) (fun g hg => hcn _ (by have := HCVN.out g hg; omega)) (fun t ht e => ?_), huw⟩
  · rcases hnew g hg with e | e
    · exact HH5.out.ct g e
    · exact hcn g (by omega)
  · refine HCV5.out.upd hu59 (fun b hb e => ?_)
    obtain ⟨cu, k1⟩ := row_block HCV5.out hb
    rcases e with e | e
    · exact block_ne k1 hb5 (by decide) e
    · obtain ⟨cu2, k2⟩ := row_block HH5.out.trow e
      exact block_ne k1 k2 (by decide) rfl
  · have := lt_of_block (HH5.out.tabs t ht).1.1
    rw [e] at this
    omega
end
end Go.Proofs.Ytdohkjpapmkhjaa
