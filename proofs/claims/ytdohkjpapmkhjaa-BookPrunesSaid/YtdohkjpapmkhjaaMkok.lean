/-
  THE BOOK: CreateIndex, where there is room.
-/
import Derived.Test.YtdohkjpapmkhjaaMkind
namespace Go.Proofs.Ytdohkjpapmkhjaa
open Go.RowKit
theorem Try.info153 : (Try.prog.info? 153).map (fun i => (i.zero, i.size, i.bytes)) = some (some (.pointer none), 1, 8) := by kernel_rfl
section
variable {c cl : Nat → Nat} {k kl p pl : Nat} {w w' : World} {tv iv : Value} {T : List (Nat × Ent × Value)} {I : List (Nat × Ent × Int)} {last : Int} {f : Int} {L : List Nat}
theorem below_alloc (w : World) (o : Obj) : Below w.heap.size w (w.alloc o) := (Below.refl _ _).alloc (Nat.le_refl _) o
/-- A step that writes the indexes' slice and the book's own block alone. -/
theorem BookAt.growI (h : BookAt c k w p tv iv T I last) {v' : Value} {e : Ent} {bt : Nat} {tid : Int} (hI : I.length < 16)
    (u : Upd (fun b => b = p ∨ iv.ownBlock = some b) w w') (hblk : w'.heap[p]? = some (.cells #[tv, v', .int .u64 last] 137 (0, 0)))
    (hrow : w'.ownsRow 0 153 1 v' (I.length + 1) (ptrs (I.map (·.1)) ++ [.pointer (some ⟨bt, 0, none⟩)])) (hv' : ∀ g, v'.ownBlock = some g → c g = k)
    (ht : IndAt w' (bt, e, tid)) (hbt : c bt = k) (hnew : ∀ t ∈ I, t.1 ≠ bt) :
    BookAt c k w' p tv v' T (I ++ [(bt, e, tid)]) last := by
  have hb := h.blk
  have ne1 : ∀ g, tv.ownBlock = some g → ¬ (g = p ∨ iv.ownBlock = some g) := fun g hg e => by
    obtain ⟨cu, k1⟩ := row_block h.trow hg
    rcases e with e | e
    · exact block_ne k1 hb (by decide) e
    · exact rows_apart h.trow h.irow (by decide) g hg e
  have ne2 : ∀ {b X : Nat} {x : Array Value}, w.heap[b]? = some (.cells x X (0, 0)) → X ≠ 137 → X ≠ 153 → ¬ (b = p ∨ iv.ownBlock = some b) := fun hx h1 h2 e => by
    rcases e with e | e
    · exact block_ne hx hb h1 e
    · obtain ⟨cu, k1⟩ := row_block h.irow e
      exact block_ne hx k1 h2 rfl
  refine ⟨hblk, ownsRow_upd h.trow u ne1, ?_, h.cp, h.ct, hv', fun t hm => ⟨⟨u.heap (h.tabs t hm).1.1 (ne2 (h.tabs t hm).1.1 (by decide) (by decide)), (h.tabs t hm).1.2.upd u (fun b e1 => ?_)⟩, (h.tabs t hm).2⟩, fun t hm => ?_, h.tonce, ?_, h.tlen, by simp; omega, h.lo, h.hi⟩
  · rw [List.length_append, List.map_append]
    simpa [ptrs, ptr] using hrow
  · obtain ⟨cu, k1⟩ := row_block (h.tabs t hm).1.2 e1
    exact ne2 k1 (by decide) (by decide)
  · rcases List.mem_append.1 hm with hm | hm
    · exact ⟨u.heap (h.inds t hm).1 (ne2 (h.inds t hm).1 (by decide) (by decide)), (h.inds t hm).2⟩
    · obtain rfl := List.mem_singleton.1 hm
      exact ⟨ht, hbt⟩
  · rw [List.map_append, List.nodup_append]
    refine ⟨h.ionce, by simp, fun a ha b hb2 e => ?_⟩
    obtain ⟨t, hmt, rfl⟩ := List.mem_map.1 ha
    have hbb : b = bt := by simpa using hb2
    exact hnew t hmt (e.trans hbb)

/-- A step that writes one block alone, none of the book's. -/
theorem BookAt.other (h : BookAt c k w p tv iv T I last) {q X : Nat} {cs : Array Value} {fz : Nat × Nat} (u : Upd (fun b => b = q) w w') (hq : w.heap[q]? = some (.cells cs X fz))
    (h1 : X ≠ 137) (h2 : X ≠ 140) (h3 : X ≠ 153) (h4 : X ≠ 149) (h5 : X ≠ 155) (h6 : X ≠ 147) : BookAt c k w' p tv iv T I last := by
  have hr : ∀ {b e sz n : Nat} {v : Value} {xs : List Value}, w.ownsRow b e sz v n xs → X ≠ e → ∀ g, v.ownBlock = some g → ¬ g = q := fun hr he g hg e => by
    obtain ⟨cu, k1⟩ := row_block hr hg
    exact block_ne k1 hq (Ne.symm he) e
  exact ⟨u.heap h.blk (block_ne h.blk hq (Ne.symm h1)), ownsRow_upd h.trow u (hr h.trow h2), ownsRow_upd h.irow u (hr h.irow h3), h.cp, h.ct, h.ci,
    fun t ht => ⟨⟨u.heap (h.tabs t ht).1.1 (block_ne (h.tabs t ht).1.1 hq (Ne.symm h4)), (h.tabs t ht).1.2.upd u (hr (h.tabs t ht).1.2 h6)⟩, (h.tabs t ht).2⟩,
    fun t ht => ⟨u.heap (h.inds t ht).1 (block_ne (h.inds t ht).1 hq (Ne.symm h5)), (h.inds t ht).2⟩, h.tonce, h.ionce, h.tlen, h.ilen, h.lo, h.hi⟩

set_option maxHeartbeats 4000000 in
set_option maxRecDepth 100000 in
/-- CreateIndex, where there is room. -/
theorem mkind_ok (h : BookAt c k w p tv iv T I last) (hl : LogAt cl kl w pl f L) {s : Snp} {rv : Value} (hr : Run w rv s.run) (name ofn : ByteArray) (hsz : name.size ≤ 4611686018427387904) (hn : isName name = true) {t : Nat × Ent × Value} (hf : findT f L s ofn T = some t) (hE : takenE f L s name ((ents T I).map (·.2)) 0 = 0) (hI : I.length < 16) (hlast : last < 1099511627776) :
    Calls Try.prog 53 #[.pointer (some ⟨p, 0, none⟩), .pointer (some ⟨pl, 0, none⟩), s.val rv, .string name, .string ofn, .string nameA] w fun r w' => r = .returned (.tuple #[idxV ⟨last + 1, name, s.own, 0⟩ t.2.1.id, .int .i64 0]) ∧
      ∃ v' bt, BookAt (col c w.heap.size k) k w' p tv v' T (I ++ [(bt, ⟨last + 1, name, s.own, 0⟩, t.2.1.id)]) (last + 1) ∧ Upd (fun b => c b = k) w w' := by
  obtain ⟨i0, hi, hz0, hz1', hz2'⟩ := info_parts Try.info153
  have hnm := fun w' => name_any name w' hsz
  rw [hn] at hnm
  have htab : ∀ w', Below w.heap.size w w' → Calls Try.prog 67 #[.pointer (some ⟨p, 0, none⟩), .pointer (some ⟨pl, 0, none⟩), s.val rv, .string ofn] w' fun r w'' => r = .returned (.pointer (some ⟨t.1, 0, none⟩)) ∧ Below w'.heap.size w' w'' := fun w' hb => by
    have := table_at (h.same hb) (hl.same hb) (hr.same hb) ofn
    rw [hf] at this
    exact this
  have hta : ∀ w', Below w.heap.size w w' → Calls Try.prog 64 #[.pointer (some ⟨p, 0, none⟩), .pointer (some ⟨pl, 0, none⟩), s.val rv, .string name] w' fun r w'' => r = .returned (.int .i64 0) ∧ Below w'.heap.size w' w'' := fun w' hb => by
    have := taken_at (h.same hb) (hl.same hb) (hr.same hb) name
    rw [hE] at this; exact this
  have htt := (h.tabs t (findT_mem hf)).1
  have hcw : ∀ w', Below w.heap.size w w' → ColsAt w' t.2.2 := fun w' hb => htt.2.upd (S := fun _ => False) (Upd.same hb) (fun _ _ x => x)
  have hbl3 : ∀ w', Below w.heap.size w w' → ∃ ia ic, iv = .slice ia I.length ic ∧ w'.cell? ⟨p, 1, none⟩ = some (.slice ia I.length ic) := fun w' hb => by
    obtain ⟨ta, tc, e⟩ := ownsRow_slice h.irow
    exact ⟨ta, tc, e, by rw [← e]; exact cell_of_block (h.same hb).blk rfl⟩
  have h' : BookAt (col c w.heap.size k) k w p tv iv T I last := h.recol (fun b hb => col_old hb)
  have hfr : ∀ w', Below w.heap.size w w' → Calls Try.prog 65 #[.pointer (some ⟨p, 0, none⟩), s.val rv, .string name] w' fun r w'' => r = .returned (.agg #[.int .u64 (last + 1), .string name, .int .u64 s.own, .int .u64 0]) ∧ BookAt (col c w.heap.size k) k w'' p tv iv T I (last + 1) ∧ Upd (fun b => b = p) w' w'' := fun w' hb =>
    fresh_at (h'.same hb) hlast (hr.same hb) name
  have hpb := lt_of_block h.blk
  have htp : ∀ g, tv.ownBlock = some g → g ≠ p := fun g hg e => by
    obtain ⟨cu, k1⟩ := row_block h.trow hg
    exact block_ne k1 h.blk (by decide) e
  have hbp : t.1 ≠ p := block_ne htt.1 h.blk (by decide)
  obtain ⟨b, ⟨tid, tnm, tn, tx⟩, cv⟩ := t
  obtain ⟨own, xmin, xmax, run⟩ := s
  unfold Snp.val at hta htab hfr ⊢
  unfold idxV
  obtain ⟨ra, rc, hrv⟩ := ownsRow_slice hr.1
  subst hrv
  simp only at hta htab hcw hfr hbp ⊢
  have hrl := hr.2
  obtain ⟨g, cap, hcv, _, _⟩ := htt.2.cells
  simp only at hcv
  subst hcv
  have c4 : w.cell? ⟨b, 4, none⟩ = some (.slice (some ⟨g, 0, none⟩) 1 cap) := cell_of_block htt.1 rfl
  have c0 : w.cell? ⟨b, 0, none⟩ = some (.int .u64 tid) := cell_of_block htt.1 rfl
  have hI' : ¬ (16 : Int) ≤ (I.length : Int) := by omega
  have HNM := Lib.hid hnm; have HTB := Lib.hid htab; have HTA := Lib.hid hta; have HCW := Lib.hid hcw; have HBL := Lib.hid hbl3; have HFR := Lib.hid hfr; have HP := Lib.hid h'; have HC := Lib.hid h.cp; have HCT := Lib.hid h.ci
  clear hnm htab hta hcw htt hbl3 hfr h' h hl hr hn hE hf htp
  go_enter Try.func53, Try.ntmps53
  go_wp2_with fail
  obtain ⟨wz, hwz⟩ : ∃ wz, wz = mk3 w own xmin xmax (.slice ra run.length rc) := ⟨_, rfl⟩
  have hal := mk3_below w own xmin xmax (.slice ra run.length rc)
  have hH0 := mk3_0 w own xmin xmax (.slice ra run.length rc)
  have hH1 := mk3_1 w own xmin xmax (.slice ra run.length rc)
  have hH2 := mk3_2 w own xmin xmax (.slice ra run.length rc)
  rw [← hwz] at hal hH0 hH1 hH2
  unfold mk3 at hwz
  obtain ⟨q2, hq2⟩ : ∃ q2, q2 = w.heap.size + 1 + 1 := ⟨_, rfl⟩
  obtain ⟨q1, hq1⟩ : ∃ q1, q1 = w.heap.size + 1 := ⟨_, rfl⟩
  obtain ⟨q, hq⟩ : ∃ q, q = w.heap.size := ⟨_, rfl⟩
  rw [← hq2] at hH2
  rw [← hq1] at hH1
  rw [← hq] at hH0
  rw [← hwz, ← hq2, ← hq1, ← hq]
  have hq2w : w.heap.size ≤ q2 := by omega
  have hqw : w.heap.size ≤ q := by omega
  have hqp : q ≠ p := by omega
  have hq2p : q2 ≠ p := by omega
  clear hwz hq2 hq1 hq
  refine (HNM.out _).mono ?_
  rintro r w1 ⟨rfl, hk1⟩
  have hB1 := hal.trans (hk1.mono hal.size)
  have hz1 := hk1
  have p0 : w1.cell? ⟨q, 0, none⟩ = some (.int .u64 own) := keeper hz1 (cell_of_block hH0 rfl)
  have p1 : w1.cell? ⟨q, 1, none⟩ = some (.int .u64 xmin) := keeper hz1 (cell_of_block hH0 rfl)
  have p2 : w1.cell? ⟨q, 2, none⟩ = some (.int .u64 xmax) := keeper hz1 (cell_of_block hH0 rfl)
  have p3 : w1.cell? ⟨q, 3, none⟩ = some (.slice ra run.length rc) := keeper hz1 (cell_of_block hH0 rfl)
  go_wp2_with fail
  refine (HTB.out _ hB1).mono ?_
  rintro r w2 ⟨rfl, hk2⟩
  have hB2 := hB1.trans (hk2.mono hB1.size)
  have hz2 := hz1.trans (hk2.mono hz1.size)
  clear p0 p1 p2 p3
  have c4' := keeper hB2 c4
  have hq1c : w2.cell? ⟨q1, 0, none⟩ = some (.string nameA) := keeper hz2 (cell_of_block hH1 rfl)
  have HIX := Lib.hid (idxf_at (HCW.out _ hB2) hq1c)
  clear c4 hq1c
  go_wp2_with fail
  refine HIX.out.mono ?_
  rintro r w3 ⟨rfl, hk3⟩
  have hB3 := hB2.trans (hk3.mono hB2.size)
  have hz3 := hz2.trans (hk3.mono hz2.size)
  clear HIX c4'
  have p0 : w3.cell? ⟨q, 0, none⟩ = some (.int .u64 own) := keeper hz3 (cell_of_block hH0 rfl)
  have p1 : w3.cell? ⟨q, 1, none⟩ = some (.int .u64 xmin) := keeper hz3 (cell_of_block hH0 rfl)
  have p2 : w3.cell? ⟨q, 2, none⟩ = some (.int .u64 xmax) := keeper hz3 (cell_of_block hH0 rfl)
  have p3 : w3.cell? ⟨q, 3, none⟩ = some (.slice ra run.length rc) := keeper hz3 (cell_of_block hH0 rfl)
  go_wp2_with fail
  refine (HTA.out _ hB3).mono ?_
  rintro r w4 ⟨rfl, hk4⟩
  have hB4 := hB3.trans (hk4.mono hB3.size)
  have hz4 := hz3.trans (hk4.mono hz3.size)
  have c0' := keeper hB4 c0
  have s0 := keeper hk4 p0
  have s1 := keeper hk4 p1
  have s2 := keeper hk4 p2
  have s3 := keeper hk4 p3
  clear p0 p1 p2 p3 c0
  obtain ⟨ia, ic, hiv, k3⟩ := HBL.out _ hB4
  have hdr : Below w4.heap.size w4 w4.drew := below_drewN (n := 1)
  have hB5 := hB4.trans (hdr.mono hB4.size)
  go_wp2_with fail
  go_region_held3 (fun z => z.cell? ⟨q, 0, none⟩ = some (.int .u64 own) ∧ z.cell? ⟨q, 1, none⟩ = some (.int .u64 xmin) ∧ z.cell? ⟨q, 2, none⟩ = some (.int .u64 xmax) ∧ z.cell? ⟨q, 3, none⟩ = some (.slice ra run.length rc) ∧ z.cell? ⟨b, 0, none⟩ = some (.int .u64 tid))
    (first | (with_reducible exact ⟨keeper hdr s0, keeper hdr s1, keeper hdr s2, keeper hdr s3, keeper hdr c0'⟩) | (with_reducible exact ⟨u5.cell (keeper hdr s0) hqp, u5.cell (keeper hdr s1) hqp, u5.cell (keeper hdr s2) hqp, u5.cell (keeper hdr s3) hqp, u5.cell (keeper hdr c0') hbp⟩) | (with_reducible exact ⟨keeper (below_alloc _ _) (u5.cell (keeper hdr s0) hqp), keeper (below_alloc _ _) (u5.cell (keeper hdr s1) hqp), keeper (below_alloc _ _) (u5.cell (keeper hdr s2) hqp), keeper (below_alloc _ _) (u5.cell (keeper hdr s3) hqp), keeper (below_alloc _ _) (u5.cell (keeper hdr c0') hbp)⟩))
    (first | (go_at_call 65; (with_reducible refine (HFR.out _ hB5).mono ?_); rintro r w5 ⟨rfl, h5, u5⟩))
  try clear hH_1
  clear s0 s1 s2 s3 c0' k3
  have hz3' := hB5.size
  have hz4' := u5.size
  subst hiv
  have hb5 := h5.blk
  have k5 : w5.cell? ⟨p, 1, none⟩ = some (.slice ia I.length ic) := cell_of_block hb5 rfl
  have f5 : w5.frozen? ⟨p, 1, none⟩ = false := free_of_block hb5
  have hrow5 := h5.irow
  have k6 : (w5.alloc (.cells #[.int .u64 (last + 1), .string name, .int .u64 own, .int .u64 0, .int .u64 tid, .int .i64 0] 155)).cell? ⟨p, 1, none⟩ = some (.slice ia I.length ic) := keeper (below_alloc _ _) k5
  have hrow7 := World.ownsRow.alloc (World.ownsRow.alloc hrow5 (.cells #[.int .u64 (last + 1), .string name, .int .u64 own, .int .u64 0, .int .u64 tid, .int .i64 0] 155)) (.cells #[.pointer (some ⟨w5.heap.size, 0, none⟩)] 153)
  have HH5 := Lib.hid h5
  have HROW := Lib.hid hrow7
  have HTLB := Lib.hid (show ∀ b, (Value.slice ia I.length ic).ownBlock = some b → b < w5.heap.size from fun b hb => (World.ownsRow.lt hrow5 b hb).2)
  have hH6 := heap_new1 w5 (.cells #[.int .u64 (last + 1), .string name, .int .u64 own, .int .u64 0, .int .u64 tid, .int .i64 0] 155)
  have hq25 := u5.heap ((Upd.same (S := fun _ => False) hdr).heap ((Upd.same (S := fun _ => False) hz4).heap hH2 id) id) hq2p
  clear h5 hrow7 hrow5 k5 f5
  go_wp2_with (at_builtin; refine wpList_append_mine rfl (.tmp 76) (.tmp 78) 135 rfl 0 153 i0 (.pointer none) 1 8 Try.underlying135 hi hz0 hz1' hz2' rfl (by decide) _ _ _ rfl HROW.out ⟨w5.heap.size + 1, 0, none⟩ 1 1 [.pointer (some ⟨w5.heap.size, 0, none⟩)] rfl rfl ?c1 ?c2 ?c3 ?c4 ?c5 ?_)
  case c1 => first | exact fun j u h => h | exact news_block (cs := [.pointer (some ⟨w5.heap.size, 0, none⟩)]) (heap_new2 w5 _ _)
  case c2 => intro u hu; simp at hu; subst hu; rfl
  case c3 => unfold maxLen; omega
  case c4 => omega
  case c5 => omega
  intro v' w8 hown' hupd hnew
  have hu58 : Upd (fun b => (Value.slice ia I.length ic).ownBlock = some b) w5 w8 := (((Upd.refl _ w5).alloc (.cells #[.int .u64 (last + 1), .string name, .int .u64 own, .int .u64 0, .int .u64 tid, .int .i64 0] 155)).alloc (.cells #[.pointer (some ⟨w5.heap.size, 0, none⟩)] 153)).trans hupd
  have hpn : ¬ (Value.slice ia I.length ic).ownBlock = some p := fun e => by
    obtain ⟨cu, k1⟩ := row_block HH5.out.irow e
    exact block_ne k1 hb5 (by decide) rfl
  have hqn : ¬ (Value.slice ia I.length ic).ownBlock = some q2 := fun e => by
    obtain ⟨cu, k1⟩ := row_block HH5.out.irow e
    exact block_ne k1 hq25 (by decide) rfl
  have hb8 := hu58.heap hb5 hpn
  have hq8 := hu58.heap hq25 hqn
  have k8 : w8.cell? ⟨p, 1, none⟩ = some (.slice ia I.length ic) := cell_of_block hb8 rfl
  have f8 : w8.frozen? ⟨p, 1, none⟩ = false := free_of_block hb8
  have hH8 : w8.heap[w5.heap.size]? = some (.cells #[.int .u64 (last + 1), .string name, .int .u64 own, .int .u64 0, .int .u64 tid, .int .i64 0] 155 (0, 0)) := hupd.heap (block_alloc hH6 _) (fun e => by have := HTLB.out _ e; omega)
  obtain ⟨g8, cap8, rfl, _, _, _⟩ := ownsRow_some hown' (by omega)
  clear hupd k6
  have hus : Upd (fun b => b = p) w8 (w8.setCell ⟨p, 1, none⟩ (.slice (some ⟨g8, 0, none⟩) (I.length + 1) cap8)) := (Upd.refl _ w8).setCell (a := ⟨p, 1, none⟩) _ (fun _ => rfl)
  have hp5 : w5.heap.size ≠ p := by omega
  obtain ⟨w9, hw9⟩ : ∃ w9, w9 = w8.setCell ⟨p, 1, none⟩ (.slice (some ⟨g8, 0, none⟩) (I.length + 1) cap8) := ⟨_, rfl⟩
  have hb9 : (w8.setCell ⟨p, 1, none⟩ (.slice (some ⟨g8, 0, none⟩) (I.length + 1) cap8)).heap[p]? = some (.cells #[tv, .slice (some ⟨g8, 0, none⟩) (I.length + 1) cap8, .int .u64 (last + 1)] 137 (0, 0)) := by rw [block_setCell hb8]; rfl
  rw [← hw9] at hus hb9
  have hH9 := hus.heap hH8 hp5
  have hq9 := hus.heap hq8 hq2p
  have hto : Calls Try.prog 72 #[.pointer (some ⟨w5.heap.size, 0, none⟩)] w9 fun r w' => r = .returned (.agg #[.int .u64 (last + 1), .string name, .int .u64 tid, .int .i64 0, .int .u64 own, .int .u64 0]) ∧ Below w9.heap.size w9 w' := told_ind (t := (w5.heap.size, ⟨last + 1, name, own, 0⟩, tid)) hH9
  have HTO := Lib.hid hto
  clear hto
  go_wp2_with fail
  rw [← hw9]
  clear hw9 k8 f8
  refine HTO.out.mono ?_
  rintro r w10 ⟨rfl, hk10⟩
  have hqa := (Upd.same (S := fun _ => False) hk10).heap hq9 id
  have j0 : w10.cell? ⟨q2, 0, none⟩ = some (.int .u64 0) := cell_of_block hqa rfl
  have j1 : w10.cell? ⟨q2, 1, none⟩ = some (.string ⟨#[]⟩) := cell_of_block hqa rfl
  have j2 : w10.cell? ⟨q2, 2, none⟩ = some (.int .u64 0) := cell_of_block hqa rfl
  have j3 : w10.cell? ⟨q2, 3, none⟩ = some (.int .i64 0) := cell_of_block hqa rfl
  have j4 : w10.cell? ⟨q2, 4, none⟩ = some (.int .u64 0) := cell_of_block hqa rfl
  have j5 : w10.cell? ⟨q2, 5, none⟩ = some (.int .u64 0) := cell_of_block hqa rfl
  have y0 : w10.frozen? ⟨q2, 0, none⟩ = false := free_of_block hqa
  have y1 : w10.frozen? ⟨q2, 1, none⟩ = false := free_of_block hqa
  have y2 : w10.frozen? ⟨q2, 2, none⟩ = false := free_of_block hqa
  have y3 : w10.frozen? ⟨q2, 3, none⟩ = false := free_of_block hqa
  have y4 : w10.frozen? ⟨q2, 4, none⟩ = false := free_of_block hqa
  have y5 : w10.frozen? ⟨q2, 5, none⟩ = false := free_of_block hqa
  have hus6 := set6_upd (Upd.refl (fun g => g = q2) w10) (b := q2) (fun _ => rfl) (.int .u64 (last + 1)) (.string name) (.int .u64 tid) (.int .i64 0) (.int .u64 own) (.int .u64 0)
  have hqf := set6_heap hqa (.int .u64 (last + 1)) (.string name) (.int .u64 tid) (.int .i64 0) (.int .u64 own) (.int .u64 0)
  go_wp2_with fail
  clear j0 j1 j2 j3 j4 j5 y0 y1 y2 y3 y4 y5
  change bodyPost _ _ _ _ _ (set6 w10 q2 (.int .u64 (last + 1)) (.string name) (.int .u64 tid) (.int .i64 0) (.int .u64 own) (.int .u64 0))
  generalize (set6 w10 q2 (.int .u64 (last + 1)) (.string name) (.int .u64 tid) (.int .i64 0) (.int .u64 own) (.int .u64 0)) = w11 at *
  have j0 : w11.cell? ⟨q2, 0, none⟩ = some (.int .u64 (last + 1)) := cell_of_block hqf rfl
  have j1 : w11.cell? ⟨q2, 1, none⟩ = some (.string name) := cell_of_block hqf rfl
  have j2 : w11.cell? ⟨q2, 2, none⟩ = some (.int .u64 tid) := cell_of_block hqf rfl
  have j3 : w11.cell? ⟨q2, 3, none⟩ = some (.int .i64 0) := cell_of_block hqf rfl
  have j4 : w11.cell? ⟨q2, 4, none⟩ = some (.int .u64 own) := cell_of_block hqf rfl
  have j5 : w11.cell? ⟨q2, 5, none⟩ = some (.int .u64 0) := cell_of_block hqf rfl
  have hne : ∀ g, (Value.slice (some ⟨g8, 0, none⟩) (I.length + 1) cap8).ownBlock = some g → ¬ g = p := fun g hg e => by
    subst e
    obtain ⟨cu, k1⟩ := row_block hown' hg
    exact block_ne k1 hb8 (by decide) rfl
  have hu59 : Upd (fun b => b = p ∨ (Value.slice ia I.length ic).ownBlock = some b) w5 w9 := (hu58.mono (fun b _ e => .inr e)).trans (hus.mono (fun b _ e => .inl e))
  have hcn : ∀ b, w.heap.size ≤ b → col c w.heap.size k b = k := fun b hb => col_new hb
  have hkp := HC.out
  have hB9 : BookAt (col c w.heap.size k) k w9 p tv (.slice (some ⟨g8, 0, none⟩) (I.length + 1) cap8) T (I ++ [(w5.heap.size, ⟨last + 1, name, own, 0⟩, tid)]) (last + 1) :=
    HH5.out.growI hI hu59 hb9 (ownsRow_upd hown' hus hne) (fun g hg => by
      rcases hnew g hg with e | e
      · exact HH5.out.ci g e
      · exact hcn g (by omega)) hH9 (hcn _ (by omega)) (fun t ht e => by
      have := lt_of_block (HH5.out.inds t ht).1
      rw [e] at this
      omega)
  have huw : Upd (fun b => c b = k) w w11 := by
    have u1 : Upd (fun b => c b = k) w w4.drew := Upd.of_below hB5 (fun b hb e => absurd e (by omega))
    have u2 : Upd (fun b => c b = k) w w5 := u1.trans_new u5 (fun b _ e => by rw [e]; exact hkp)
    have u3 : Upd (fun b => c b = k) w w9 := u2.trans_new hu59 (fun b _ e => by rcases e with e | e; rw [e]; exact hkp; exact HCT.out b e)
    have u4 : Upd (fun b => c b = k) w w10 := u3.trans_new (Upd.same (S := fun _ => False) hk10) (fun b _ e => e.elim)
    exact u4.trans_new hus6 (fun b hb e => by omega)
  refine bodyPost_ret (v := .tuple #[.agg #[.int .u64 (last + 1), .string name, .int .u64 tid, .int .i64 0, .int .u64 own, .int .u64 0], .int .i64 0]) (by simp [results, Try.results53, go_sem, j0, j1, j2, j3, j4, j5]) rfl ⟨rfl, _, _, (hB9.same hk10).other hus6 hqa (by decide) (by decide) (by decide) (by decide) (by decide) (by decide), huw⟩
end
end Go.Proofs.Ytdohkjpapmkhjaa
