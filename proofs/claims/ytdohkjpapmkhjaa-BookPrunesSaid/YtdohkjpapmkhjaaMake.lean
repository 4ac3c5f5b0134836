/-
  THE BOOK: what is wanted to make a table: New, one, right, Clone, fresh.
-/
import Derived.Test.YtdohkjpapmkhjaaTaken
namespace Go.Proofs.Ytdohkjpapmkhjaa
open Go.RowKit

def set4 (w : World) (b : Nat) (v0 v1 v2 v3 : Value) : World := (((w.setCell ⟨b, 0, none⟩ v0).setCell ⟨b, 1, none⟩ v1).setCell ⟨b, 2, none⟩ v2).setCell ⟨b, 3, none⟩ v3
theorem set4_heap {w : World} {b T : Nat} {z0 z1 z2 z3 : Value} (h : w.heap[b]? = some (.cells #[z0, z1, z2, z3] T (0, 0))) (v0 v1 v2 v3 : Value) :
    (set4 w b v0 v1 v2 v3).heap[b]? = some (.cells #[v0, v1, v2, v3] T (0, 0)) := by
  unfold set4
  rw [block_setCell (block_setCell (block_setCell (block_setCell h v0) v1) v2) v3]; rfl
theorem set4_upd {S : Nat → Prop} {w0 w : World} {b : Nat} (u : Upd S w0 w) (hb : b < w0.heap.size → S b) (v0 v1 v2 v3 : Value) : Upd S w0 (set4 w b v0 v1 v2 v3) :=
  (((u.setCell (a := ⟨b, 0, none⟩) v0 hb).setCell (a := ⟨b, 1, none⟩) v1 hb).setCell (a := ⟨b, 2, none⟩) v2 hb).setCell (a := ⟨b, 3, none⟩) v3 hb

theorem key9 : KeyKind Try.prog 9 (fun s : ByteArray => Value.string s) := keyKind_string Try.underlying9
theorem isName_a : isName nameA = true := by decide +kernel
theorem Try.info147 : (Try.prog.info? 147).map (fun i => (i.zero, i.size, i.bytes)) = some (some (.agg #[.string ByteArray.empty, .int .u8 0]), 2, 24) := by kernel_rfl

section
variable {c cl : Nat → Nat} {k kl p pl : Nat} {w w' : World} {tv iv cv : Value} {T : List (Nat × Ent × Value)} {I : List (Nat × Ent × Int)} {last : Int} {f : Int} {L : List Nat}

/-- book.New. -/
theorem bnew_at (w : World) (c : Nat → Nat) (k : Nat) : Calls Try.prog 47 #[] w fun r w' => r = .returned (.pointer (some ⟨w.heap.size, 0, none⟩)) ∧ BookAt (col c w.heap.size k) k w' w.heap.size (.slice none 0 0) (.slice none 0 0) [] [] 0 ∧ Below w.heap.size w w' := by
  go_enter Try.func47, Try.ntmps47
  go_wp2_with fail
  go_ret
  exact ⟨rfl, ⟨heap_new1 w _, World.ownsRow_nil _ _ _ _, World.ownsRow_nil _ _ _ _, col_new (Nat.le_refl _), (fun g hg => by simp [Value.ownBlock] at hg), (fun g hg => by simp [Value.ownBlock] at hg), (fun t ht => by cases ht), (fun t ht => by cases ht), by simp, by simp, by decide, by decide, by decide, by decide⟩, (Below.refl _ _).alloc (Nat.le_refl _) _⟩

/-- lapidarylaw11.one. -/
theorem one_at (w : World) : Calls Try.prog 49 #[] w fun r w' => ∃ g, r = .returned (.slice (some ⟨g, 0, none⟩) 1 1) ∧ w.heap.size ≤ g ∧ ColsAt w' (.slice (some ⟨g, 0, none⟩) 1 1) ∧ Below w.heap.size w w' := by
  go_enter Try.func49, Try.ntmps49
  go_wp2_with fail
  go_ret
  refine ⟨_, rfl, Nat.le_refl _, ?_, (Below.refl _ _).alloc (Nat.le_refl _) _⟩
  refine ⟨by rfl, .inr ⟨w.heap.size, 1, #[.string nameA, .int .u8 1], rfl, Nat.zero_le _, heap_new1 w _, by decide, by decide, rfl, rfl⟩⟩

set_option maxHeartbeats 1000000 in
set_option maxRecDepth 100000 in
/-- book.right, of that one column. -/
theorem right_at (h : ColsAt w cv) : Calls Try.prog 63 #[cv] w fun r w' => r = .returned (.bool true) ∧ Below w.heap.size w w' := by
  have hmm := @run_makeMap Try.prog
  obtain ⟨g, cap, rfl, c0, _⟩ := ownsRow_cell h (j := 0) rfl
  obtain ⟨g', cap', e1, c1, _⟩ := ownsRow_cell h (j := 1) rfl
  simp only [Value.slice.injEq, Option.some.injEq, Addr.mk.injEq] at e1
  obtain ⟨⟨rfl, _⟩, _, rfl⟩ := e1
  have hnm : ∀ w', Calls Try.prog 50 #[.string nameA] w' fun e w'' => e = .returned (.bool true) ∧ Below w'.heap.size w' w'' := fun w' => by
    have := name_any nameA w' (by decide)
    rw [isName_a] at this; exact this
  have HNM := Lib.hid hnm
  obtain ⟨na, hna⟩ : ∃ na, na = nameA := ⟨_, rfl⟩
  rw [← hna] at c0 HNM
  clear hna hnm h
  go_enter Try.func63, Try.ntmps63
  go_wp2_with fail
  have hm0 := MapOf.made w (fun s : ByteArray => Value.string s)
  have hal : Below w.heap.size w (w.alloc (.map #[] 0)) := (Below.refl _ _).alloc (Nat.le_refl _) _
  go_loopw [9] (fun i wr => (i = .int .i64 0 ∧ MapOf (fun s : ByteArray => Value.string s) wr w.heap.size [] ∧ Below w.heap.size w wr) ∨ (i = .int .i64 1 ∧ Below w.heap.size w wr)) (fun i _ => 1 - (intOf i).toNat)
  case atStart => exact .inl ⟨rfl, hm0, hal⟩
  case round =>
    rcases hrel with ⟨rfl, hm, hB⟩ | ⟨rfl, hB⟩
    · have c0' := keeper hB c0
      have c1' := keeper hB c1
      go_wp2_with fail
      refine (HNM.out _).mono ?_
      rintro r w1 ⟨rfl, hk1⟩
      have hal1 : Below wr.heap.size wr (wr.alloc (.cells #[.string na, .int .u8 1] 147)) := (Below.refl _ _).alloc (Nat.le_refl _) _
      have hH := heap_new1 wr (.cells #[.string na, .int .u8 1] 147)
      have q0 := keeper hk1 (cell_of_block hH (i := 0) rfl)
      have q1 := keeper hk1 (cell_of_block hH (i := 1) rfl)
      have hB1 := hal1.trans (hk1.mono hal1.size)
      have hm1 := (hm.same hal1).same hk1
      have hlk0 := run_lookup_map hm1 key9 Try.underlying169 (zero4 w1) na false
      have hlk : (Instr.lookup 169 (.map (some w.heap.size)) (.string na) false).run Try.prog w1 = .ok (.bool false) w1 := hlk0
      clear hlk0 hk1 hH hal1 c0' c1'
      go_wp2_with (at_mapUpdate; refine wpList_update_map rfl _ _ _ 169 rfl 9 4 key9 Try.underlying169 _ _ rfl hm1 na (.bool true) rfl rfl ?_; intro wb hmb hub; clear hlk)
      go_roundw
      case rel => exact .inr ⟨rfl, hB.trans ((hB1.mono hB.size).trans (hub.below (Nat.le_trans hB.size hB1.size) (fun b hb e => by omega)))⟩
      case measure => simp [intOf]
    · go_wp2_with fail
      go_ret
      exact ⟨rfl, hB⟩

theorem ColsAt.cells (h : ColsAt w cv) : ∃ g cap, cv = .slice (some ⟨g, 0, none⟩) 1 cap ∧ w.cell? ⟨g, 0, none⟩ = some (.string nameA) ∧ w.cell? ⟨g, 1, none⟩ = some (.int .u8 1) := by
  obtain ⟨g, cap, rfl, c0, _⟩ := ownsRow_cell h (j := 0) rfl
  obtain ⟨g', cap', e1, c1, _⟩ := ownsRow_cell h (j := 1) rfl
  simp only [Value.slice.injEq, Option.some.injEq, Addr.mk.injEq] at e1
  obtain ⟨⟨rfl, _⟩, _, rfl⟩ := e1
  exact ⟨_, _, rfl, c0, c1⟩

set_option maxHeartbeats 1000000 in
set_option maxRecDepth 100000 in
/-- slices.Clone, of that one column. -/
theorem clone_at (h : ColsAt w cv) : Calls Try.prog 66 #[cv] w fun r w' => ∃ v, r = .returned v ∧ ColsAt w' v ∧ (∀ g, v.ownBlock = some g → w.heap.size ≤ g) ∧ Below w.heap.size w w' := by
  obtain ⟨i0, hi, hz0, hz1, hz2⟩ := info_parts Try.info147
  obtain ⟨g, cap, rfl, c0, c1⟩ := h.cells
  clear h
  have hq := fun w : World => Lib.run_eql_slice_nil (P := Try.prog) w 101 147 (some ⟨g, 0, none⟩) 1 cap 0 0 Try.underlying101
  go_enter Try.func66, Try.ntmps66
  have hown0 : (w.alloc (.cells #[] 147)).ownsRow w.heap.size 147 2 (.slice (some ⟨w.heap.size, 0, none⟩) 0 0) 0 [] := ⟨rfl, .inr ⟨w.heap.size, 0, #[], rfl, Nat.le_refl _, heap_new1 w _, Nat.le_refl _, by decide, rfl, rfl⟩⟩
  have hal : Below w.heap.size w (w.alloc (.cells #[] 147)) := (Below.refl _ _).alloc (Nat.le_refl _) _
  have hcs : ∀ j u, [Value.string nameA, .int .u8 1][j]? = some u → (w.alloc (.cells #[] 147)).cell? ((⟨g, 0, none⟩ : Addr).add j) = some u := fun j u hj => by
    match j, hj with
    | 0, hj => obtain rfl := Option.some.inj hj; exact keeper hal c0
    | 1, hj => obtain rfl := Option.some.inj hj; exact keeper hal c1
  have HCS := Lib.hid hcs
  have HOWN := Lib.hid hown0
  clear hcs hown0 c0 c1
  go_wp2_with (at_builtin; refine wpList_append_mine rfl (.tmp 5) (.tmp 6) 101 rfl w.heap.size 147 i0 (.agg #[.string ByteArray.empty, .int .u8 0]) 2 24 Try.underlying101 hi hz0 hz1 hz2 rfl (by decide) _ _ _ rfl HOWN.out ⟨g, 0, none⟩ 1 cap [.string nameA, .int .u8 1] rfl rfl HCS.out ?c2 ?c3 ?c4 ?c5 ?_)
  case c2 => intro u hu; simp only [List.mem_cons, List.not_mem_nil, or_false] at hu; rcases hu with rfl | rfl <;> rfl
  case c3 => decide
  case c4 => decide
  case c5 => simp
  intro v' w5 hown' hupd hnew
  have hb5 : Below w.heap.size w w5 := Upd.below (S := fun b => w.heap.size ≤ b) ((Upd.of_below hal (fun b _ h => h)).trans (hupd.mono (fun b _ e => (World.ownsRow.lt HOWN.out b e).1))) (Nat.le_refl _) (fun b hb e => absurd hb (Nat.not_lt_of_le e))
  go_wp2_with fail
  go_ret
  exact ⟨_, rfl, ownsRow_base hown' (Nat.zero_le _), fun g hg => (World.ownsRow.lt hown' g hg).1, hb5⟩
set_option maxHeartbeats 1000000 in
set_option maxRecDepth 100000 in
/-- (*book.Book).fresh. -/
theorem fresh_at (h : BookAt c k w p tv iv T I last) (hi : last < 1099511627776) {s : Snp} {rv : Value} (hr : Run w rv s.run) (name : ByteArray) :
    Calls Try.prog 65 #[.pointer (some ⟨p, 0, none⟩), s.val rv, .string name] w fun r w' => r = .returned (.agg #[.int .u64 (last + 1), .string name, .int .u64 s.own, .int .u64 0]) ∧ BookAt c k w' p tv iv T I (last + 1) ∧ Upd (fun b => b = p) w w' := by
  obtain ⟨own, xmin, xmax, run⟩ := s
  unfold Snp.val
  obtain ⟨ra, rc, hrv⟩ := ownsRow_slice hr.1
  subst hrv
  simp only
  have hrl := hr.2
  have hlo := h.lo
  have hpb := lt_of_block h.blk
  have k2 : w.cell? ⟨p, 2, none⟩ = some (.int .u64 last) := cell_of_block h.blk (i := 2) rfl
  have f2 : w.frozen? ⟨p, 2, none⟩ = false := free_of_block h.blk
  go_enter Try.func65, Try.ntmps65
  go_wp2_with fail
  obtain ⟨wz, hwz⟩ : ∃ wz, wz = ((w.setCell ⟨p, 2, none⟩ (.int .u64 (last + 1))).alloc (.cells #[.int .u64 own, .int .u64 xmin, .int .u64 xmax, .slice ra run.length rc] 66)).alloc (.cells #[.int .u64 0, .string { data := #[] }, .int .u64 0, .int .u64 0] 142) := ⟨_, rfl⟩
  have hsz : (w.setCell ⟨p, 2, none⟩ (.int .u64 (last + 1))).heap.size = w.heap.size := by simp [World.setCell]
  have hH1 : wz.heap[w.heap.size]? = some (.cells #[.int .u64 own, .int .u64 xmin, .int .u64 xmax, .slice ra run.length rc] 66 (0, 0)) := by
    rw [hwz, ← hsz]; exact block_alloc (heap_new1 _ _) _
  have hH2 : wz.heap[w.heap.size + 1]? = some (.cells #[.int .u64 0, .string { data := #[] }, .int .u64 0, .int .u64 0] 142 (0, 0)) := by
    rw [hwz, ← hsz]; exact heap_new2 _ _ _
  have hu0 : Upd (fun b => b = p) w (w.setCell ⟨p, 2, none⟩ (.int .u64 (last + 1))) := (Upd.refl _ w).setCell (a := ⟨p, 2, none⟩) _ (fun _ => rfl)
  have huz : Upd (fun b => b = p) w wz := by rw [hwz]; exact (hu0.alloc _).alloc _
  have hHp : wz.heap[p]? = some (.cells #[tv, iv, .int .u64 (last + 1)] 137 (0, 0)) := by
    have h1 : (w.setCell ⟨p, 2, none⟩ (.int .u64 (last + 1))).heap[p]? = some (.cells #[tv, iv, .int .u64 (last + 1)] 137 (0, 0)) := by rw [block_setCell h.blk _]; rfl
    rw [hwz]; exact block_alloc (block_alloc h1 _) _
  rw [← hwz]
  obtain ⟨q1, hq1⟩ : ∃ q1, q1 = w.heap.size := ⟨_, rfl⟩
  obtain ⟨q2, hq2⟩ : ∃ q2, q2 = w.heap.size + 1 := ⟨_, rfl⟩
  rw [← hq1] at hH1
  rw [← hq2] at hH2
  rw [← hq2, ← hq1]
  have kp := cell_of_block hHp (i := 2) rfl
  have ko := cell_of_block hH1 (i := 0) rfl
  have kz0 := cell_of_block hH2 (i := 0) rfl
  have kz1 := cell_of_block hH2 (i := 1) rfl
  have kz2 := cell_of_block hH2 (i := 2) rfl
  have kz3 := cell_of_block hH2 (i := 3) rfl
  have fz0 : wz.frozen? ⟨q2, 0, none⟩ = false := free_of_block hH2
  have fz1 : wz.frozen? ⟨q2, 1, none⟩ = false := free_of_block hH2
  have fz2 : wz.frozen? ⟨q2, 2, none⟩ = false := free_of_block hH2
  have fz3 : wz.frozen? ⟨q2, 3, none⟩ = false := free_of_block hH2
  have kp' : wz.cell? ⟨p, 2, none⟩ = some (.int .u64 (last + 1)) := kp
  have ko' : wz.cell? ⟨q1, 0, none⟩ = some (.int .u64 own) := ko
  have hH6 := set4_heap hH2 (.int .u64 (last + 1)) (.string name) (.int .u64 own) (.int .u64 0)
  have hU6 := set4_upd huz (b := q2) (fun hb => by omega) (.int .u64 (last + 1)) (.string name) (.int .u64 own) (.int .u64 0)
  have hne : p ≠ q2 := by omega
  have hPn : (set4 wz q2 (.int .u64 (last + 1)) (.string name) (.int .u64 own) (.int .u64 0)).heap[p]? = some (.cells #[tv, iv, .int .u64 (last + 1)] 137 (0, 0)) := (set4_upd (Upd.refl (fun b => b = q2) wz) (b := q2) (fun _ => rfl) (.int .u64 (last + 1)) (.string name) (.int .u64 own) (.int .u64 0)).heap hHp hne
  have HQ2 := Lib.hid hq2
  clear hwz hsz hu0 huz hHp hH1 hH2 kp ko hq1 hq2 k2 f2
  go_still_tail 8, (by kernel_rfl)
  change wpList _ _ _ _ _ wz.drew
  go_wp2_with fail
  have j0 := cell_of_block hH6 (i := 0) rfl
  have j1 := cell_of_block hH6 (i := 1) rfl
  have j2 := cell_of_block hH6 (i := 2) rfl
  have j3 := cell_of_block hH6 (i := 3) rfl
  clear kz0 kz1 kz2 kz3 fz0 fz1 fz2 fz3 kp' ko'
  change bodyPost _ _ _ _ _ (set4 wz q2 (.int .u64 (last + 1)) (.string name) (.int .u64 own) (.int .u64 0)).drew
  generalize (set4 wz q2 (.int .u64 (last + 1)) (.string name) (.int .u64 own) (.int .u64 0)) = w6 at *
  refine bodyPost_ret (v := .agg #[.int .u64 (last + 1), .string name, .int .u64 own, .int .u64 0]) (by simp [results, Try.results65, go_sem, j0, j1, j2, j3]) rfl ⟨rfl, ?_, hU6.drew⟩
  have hrow : ∀ g, tv.ownBlock = some g → g ≠ p := fun g e e2 => by
    subst e2
    rcases h.trow.2 with ⟨rfl, _⟩ | ⟨g1, cap1, cur1, rfl, _, k1, _⟩
    · cases e
    · simp only [Value.ownBlock, Option.some.injEq] at e
      subst e
      rw [h.blk] at k1
      simp at k1
  have hrow2 : ∀ g, iv.ownBlock = some g → g ≠ p := fun g e e2 => by
    subst e2
    rcases h.irow.2 with ⟨rfl, _⟩ | ⟨g1, cap1, cur1, rfl, _, k1, _⟩
    · cases e
    · simp only [Value.ownBlock, Option.some.injEq] at e
      subst e
      rw [h.blk] at k1
      simp at k1
  have hd : Upd (fun b => b = p) w w6.drew := hU6.drew
  refine ⟨hPn, ownsRow_upd h.trow hd (fun b hb e => hrow b hb e), ownsRow_upd h.irow hd (fun b hb e => hrow2 b hb e), h.cp, h.ct, h.ci, fun t ht => ⟨⟨hd.heap (h.tabs t ht).1.1 (fun e => ?_), (h.tabs t ht).1.2.upd hd (fun b hb e => ?_)⟩, (h.tabs t ht).2⟩,
    fun t ht => ⟨hd.heap (h.inds t ht).1 (fun e => ?_), (h.inds t ht).2⟩, h.tonce, h.ionce, h.tlen, h.ilen, by omega, by omega⟩
  · have := (h.tabs t ht).1.1
    rw [e, h.blk] at this
    simp at this
  · subst e
    rcases (h.tabs t ht).1.2.2 with ⟨e1, _⟩ | ⟨g1, cap1, cur1, e1, _, k1, _⟩
    · rw [e1] at hb; cases hb
    · rw [e1] at hb
      simp only [Value.ownBlock, Option.some.injEq] at hb
      subst hb
      rw [h.blk] at k1
      simp at k1
  · have := (h.inds t ht).1
    unfold IndAt at this
    rw [e, h.blk] at this
    simp at this
end
end Go.Proofs.Ytdohkjpapmkhjaa
