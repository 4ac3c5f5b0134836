/-
  THE BOOK: CreateIndex: of any book, log, snapshot, name; the column is "a".
-/
import Derived.Test.YtdohkjpapmkhjaaIdxf
namespace Go.Proofs.Ytdohkjpapmkhjaa
open Go.RowKit
section
variable {c cl : Nat → Nat} {k kl p pl : Nat} {w w' : World} {tv iv : Value} {T : List (Nat × Ent × Value)} {I : List (Nat × Ent × Int)} {last : Int} {f : Int} {L : List Nat}
/-- No index. -/
def idx0 : Value := .agg #[.int .u64 0, .string ⟨#[]⟩, .int .u64 0, .int .i64 0, .int .u64 0, .int .u64 0]

/-- What CreateIndex lays out first. -/
def mk3 (w : World) (own xmin xmax : Int) (rv : Value) : World := ((w.alloc (.cells #[.int .u64 own, .int .u64 xmin, .int .u64 xmax, rv] 66)).alloc (.cells #[.string nameA] 9)).alloc (.cells #[.int .u64 0, .string ⟨#[]⟩, .int .u64 0, .int .i64 0, .int .u64 0, .int .u64 0] 107)
theorem mk3_below (w : World) (own xmin xmax : Int) (rv : Value) : Below w.heap.size w (mk3 w own xmin xmax rv) := (((Below.refl _ _).alloc (Nat.le_refl _) _).alloc (by simp) _).alloc (by simp; omega) _
theorem mk3_0 (w : World) (own xmin xmax : Int) (rv : Value) : (mk3 w own xmin xmax rv).heap[w.heap.size]? = some (.cells #[.int .u64 own, .int .u64 xmin, .int .u64 xmax, rv] 66 (0, 0)) := block_alloc (block_alloc (heap_new1 _ _) _) _
theorem mk3_1 (w : World) (own xmin xmax : Int) (rv : Value) : (mk3 w own xmin xmax rv).heap[w.heap.size + 1]? = some (.cells #[.string nameA] 9 (0, 0)) := block_alloc (heap_new2 _ _ _) _
theorem mk3_2 (w : World) (own xmin xmax : Int) (rv : Value) : (mk3 w own xmin xmax rv).heap[w.heap.size + 1 + 1]? = some (.cells #[.int .u64 0, .string ⟨#[]⟩, .int .u64 0, .int .i64 0, .int .u64 0, .int .u64 0] 107 (0, 0)) := by
  have := heap_new2 (w.alloc (.cells #[.int .u64 own, .int .u64 xmin, .int .u64 xmax, rv] 66)) (.cells #[.string nameA] 9) (.cells #[.int .u64 0, .string ⟨#[]⟩, .int .u64 0, .int .i64 0, .int .u64 0, .int .u64 0] 107)
  simpa [mk3] using this

set_option maxHeartbeats 1000000 in
set_option maxRecDepth 100000 in
/-- CreateIndex, where the text is no name. -/
theorem mkind_form {s : Snp} {rv : Value} (hr : Run w rv s.run) (name ofn : ByteArray) (hsz : name.size ≤ 4611686018427387904) (hn : isName name = false) :
    Calls Try.prog 53 #[.pointer (some ⟨p, 0, none⟩), .pointer (some ⟨pl, 0, none⟩), s.val rv, .string name, .string ofn, .string nameA] w fun r w' => r = .returned (.tuple #[idx0, .int .i64 3]) ∧ Below w.heap.size w w' := by
  have hnm := fun w' => name_any name w' hsz
  rw [hn] at hnm
  obtain ⟨own, xmin, xmax, run⟩ := s
  unfold Snp.val
  unfold idx0
  obtain ⟨ra, rc, hrv⟩ := ownsRow_slice hr.1
  subst hrv
  simp only
  have hrl := hr.2
  have HNM := Lib.hid hnm
  clear hnm hr hn 
  go_enter Try.func53, Try.ntmps53
  go_wp2_with fail
  obtain ⟨wz, hwz⟩ : ∃ wz, wz = mk3 w own xmin xmax (.slice ra run.length rc) := ⟨_, rfl⟩
  have hal := mk3_below w own xmin xmax (.slice ra run.length rc)
  have hH0 := mk3_0 w own xmin xmax (.slice ra run.length rc)
  have hH1 := mk3_1 w own xmin xmax (.slice ra run.length rc)
  have hH2 := mk3_2 w own xmin xmax (.slice ra run.length rc)
  rw [← hwz] at hal hH0 hH1 hH2
  unfold mk3 at hwz
  obtain ⟨q2, hq2⟩ : ∃ q2, q2 = w.heap.size + 1 + 1 := ⟨_, rfl⟩
  obtain ⟨q1, hq1⟩ : ∃ q1, q1 = w.heap.size + 1 := ⟨_, rfl⟩
  obtain ⟨q, hq⟩ : ∃ q, q = w.heap.size := ⟨_, rfl⟩
  rw [← hq2] at hH2
  rw [← hq1] at hH1
  rw [← hq] at hH0
  rw [← hwz, ← hq2, ← hq1, ← hq]
  have hq2w : w.heap.size ≤ q2 := by omega
  clear hwz hq2 hq1 hq
  refine (HNM.out _).mono ?_
  rintro r w1 ⟨rfl, hk1⟩
  have hB1 := hal.trans (hk1.mono hal.size)
  have hz1 := hk1
  have hH3 := (Upd.same (S := fun _ => False) hz1).heap hH2 id
  have j0 : w1.cell? ⟨q2, 0, none⟩ = some (.int .u64 0) := cell_of_block hH3 rfl
  have j1 : w1.cell? ⟨q2, 1, none⟩ = some (.string ⟨#[]⟩) := cell_of_block hH3 rfl
  have j2 : w1.cell? ⟨q2, 2, none⟩ = some (.int .u64 0) := cell_of_block hH3 rfl
  have j3 : w1.cell? ⟨q2, 3, none⟩ = some (.int .i64 0) := cell_of_block hH3 rfl
  have j4 : w1.cell? ⟨q2, 4, none⟩ = some (.int .u64 0) := cell_of_block hH3 rfl
  have j5 : w1.cell? ⟨q2, 5, none⟩ = some (.int .u64 0) := cell_of_block hH3 rfl
  have y0 : w1.frozen? ⟨q2, 0, none⟩ = false := free_of_block hH3
  have y1 : w1.frozen? ⟨q2, 1, none⟩ = false := free_of_block hH3
  have y2 : w1.frozen? ⟨q2, 2, none⟩ = false := free_of_block hH3
  have y3 : w1.frozen? ⟨q2, 3, none⟩ = false := free_of_block hH3
  have y4 : w1.frozen? ⟨q2, 4, none⟩ = false := free_of_block hH3
  have y5 : w1.frozen? ⟨q2, 5, none⟩ = false := free_of_block hH3
  have hus := set6_upd (Upd.refl (fun g => g = q2) w1) (b := q2) (fun _ => rfl) (.int .u64 0) (.string ⟨#[]⟩) (.int .u64 0) (.int .i64 0) (.int .u64 0) (.int .u64 0)
  have hH5 := set6_heap hH3 (.int .u64 0) (.string ⟨#[]⟩) (.int .u64 0) (.int .i64 0) (.int .u64 0) (.int .u64 0)
  go_wp2_with fail
  clear j0 j1 j2 j3 j4 j5 y0 y1 y2 y3 y4 y5
  change bodyPost _ _ _ _ _ (set6 w1 q2 (.int .u64 0) (.string ⟨#[]⟩) (.int .u64 0) (.int .i64 0) (.int .u64 0) (.int .u64 0))
  generalize (set6 w1 q2 (.int .u64 0) (.string ⟨#[]⟩) (.int .u64 0) (.int .i64 0) (.int .u64 0) (.int .u64 0)) = w6 at *
  have j0 : w6.cell? ⟨q2, 0, none⟩ = some (.int .u64 0) := cell_of_block hH5 rfl
  have j1 : w6.cell? ⟨q2, 1, none⟩ = some (.string ⟨#[]⟩) := cell_of_block hH5 rfl
  have j2 : w6.cell? ⟨q2, 2, none⟩ = some (.int .u64 0) := cell_of_block hH5 rfl
  have j3 : w6.cell? ⟨q2, 3, none⟩ = some (.int .i64 0) := cell_of_block hH5 rfl
  have j4 : w6.cell? ⟨q2, 4, none⟩ = some (.int .u64 0) := cell_of_block hH5 rfl
  have j5 : w6.cell? ⟨q2, 5, none⟩ = some (.int .u64 0) := cell_of_block hH5 rfl
  refine bodyPost_ret (v := .tuple #[.agg #[.int .u64 0, .string ⟨#[]⟩, .int .u64 0, .int .i64 0, .int .u64 0, .int .u64 0], .int .i64 3]) (by simp [results, Try.results53, go_sem, j0, j1, j2, j3, j4, j5]) rfl ⟨rfl, hB1.trans (hus.below hB1.size (fun g hg e => by omega))⟩

set_option maxHeartbeats 1000000 in
set_option maxRecDepth 100000 in
/-- CreateIndex, where there is no such table. -/
theorem mkind_none (h : BookAt c k w p tv iv T I last) (hl : LogAt cl kl w pl f L) {s : Snp} {rv : Value} (hr : Run w rv s.run) (name ofn : ByteArray) (hsz : name.size ≤ 4611686018427387904) (hn : isName name = true) (hf : findT f L s ofn T = none) :
    Calls Try.prog 53 #[.pointer (some ⟨p, 0, none⟩), .pointer (some ⟨pl, 0, none⟩), s.val rv, .string name, .string ofn, .string nameA] w fun r w' => r = .returned (.tuple #[idx0, .int .i64 6]) ∧ Below w.heap.size w w' := by
  have hnm := fun w' => name_any name w' hsz
  rw [hn] at hnm
  have htab : ∀ w', Below w.heap.size w w' → Calls Try.prog 67 #[.pointer (some ⟨p, 0, none⟩), .pointer (some ⟨pl, 0, none⟩), s.val rv, .string ofn] w' fun r w'' => r = .returned (.pointer none) ∧ Below w'.heap.size w' w'' := fun w' hb => by
    have := table_at (h.same hb) (hl.same hb) (hr.same hb) ofn
    rw [hf] at this
    exact this
  obtain ⟨own, xmin, xmax, run⟩ := s
  unfold Snp.val at htab ⊢
  unfold idx0
  obtain ⟨ra, rc, hrv⟩ := ownsRow_slice hr.1
  subst hrv
  simp only at htab ⊢
  have hrl := hr.2
  have HNM := Lib.hid hnm; have HTB := Lib.hid htab
  clear hnm htab h hl hr hn hf
  go_enter Try.func53, Try.ntmps53
  go_wp2_with fail
  obtain ⟨wz, hwz⟩ : ∃ wz, wz = mk3 w own xmin xmax (.slice ra run.length rc) := ⟨_, rfl⟩
  have hal := mk3_below w own xmin xmax (.slice ra run.length rc)
  have hH0 := mk3_0 w own xmin xmax (.slice ra run.length rc)
  have hH1 := mk3_1 w own xmin xmax (.slice ra run.length rc)
  have hH2 := mk3_2 w own xmin xmax (.slice ra run.length rc)
  rw [← hwz] at hal hH0 hH1 hH2
  unfold mk3 at hwz
  obtain ⟨q2, hq2⟩ : ∃ q2, q2 = w.heap.size + 1 + 1 := ⟨_, rfl⟩
  obtain ⟨q1, hq1⟩ : ∃ q1, q1 = w.heap.size + 1 := ⟨_, rfl⟩
  obtain ⟨q, hq⟩ : ∃ q, q = w.heap.size := ⟨_, rfl⟩
  rw [← hq2] at hH2
  rw [← hq1] at hH1
  rw [← hq] at hH0
  rw [← hwz, ← hq2, ← hq1, ← hq]
  have hq2w : w.heap.size ≤ q2 := by omega
  clear hwz hq2 hq1 hq
  refine (HNM.out _).mono ?_
  rintro r w1 ⟨rfl, hk1⟩
  have hB1 := hal.trans (hk1.mono hal.size)
  have hz1 := hk1
  have p0 : w1.cell? ⟨q, 0, none⟩ = some (.int .u64 own) := keeper hz1 (cell_of_block hH0 rfl)
  have p1 : w1.cell? ⟨q, 1, none⟩ = some (.int .u64 xmin) := keeper hz1 (cell_of_block hH0 rfl)
  have p2 : w1.cell? ⟨q, 2, none⟩ = some (.int .u64 xmax) := keeper hz1 (cell_of_block hH0 rfl)
  have p3 : w1.cell? ⟨q, 3, none⟩ = some (.slice ra run.length rc) := keeper hz1 (cell_of_block hH0 rfl)
  go_wp2_with fail
  refine (HTB.out _ hB1).mono ?_
  rintro r w2 ⟨rfl, hk2⟩
  have hB2 := hB1.trans (hk2.mono hB1.size)
  have hz2 := hz1.trans (hk2.mono hz1.size)
  clear p0 p1 p2 p3
  have hH3 := (Upd.same (S := fun _ => False) hz2).heap hH2 id
  have j0 : w2.cell? ⟨q2, 0, none⟩ = some (.int .u64 0) := cell_of_block hH3 rfl
  have j1 : w2.cell? ⟨q2, 1, none⟩ = some (.string ⟨#[]⟩) := cell_of_block hH3 rfl
  have j2 : w2.cell? ⟨q2, 2, none⟩ = some (.int .u64 0) := cell_of_block hH3 rfl
  have j3 : w2.cell? ⟨q2, 3, none⟩ = some (.int .i64 0) := cell_of_block hH3 rfl
  have j4 : w2.cell? ⟨q2, 4, none⟩ = some (.int .u64 0) := cell_of_block hH3 rfl
  have j5 : w2.cell? ⟨q2, 5, none⟩ = some (.int .u64 0) := cell_of_block hH3 rfl
  have y0 : w2.frozen? ⟨q2, 0, none⟩ = false := free_of_block hH3
  have y1 : w2.frozen? ⟨q2, 1, none⟩ = false := free_of_block hH3
  have y2 : w2.frozen? ⟨q2, 2, none⟩ = false := free_of_block hH3
  have y3 : w2.frozen? ⟨q2, 3, none⟩ = false := free_of_block hH3
  have y4 : w2.frozen? ⟨q2, 4, none⟩ = false := free_of_block hH3
  have y5 : w2.frozen? ⟨q2, 5, none⟩ = false := free_of_block hH3
  have hus := set6_upd (Upd.refl (fun g => g = q2) w2) (b := q2) (fun _ => rfl) (.int .u64 0) (.string ⟨#[]⟩) (.int .u64 0) (.int .i64 0) (.int .u64 0) (.int .u64 0)
  have hH5 := set6_heap hH3 (.int .u64 0) (.string ⟨#[]⟩) (.int .u64 0) (.int .i64 0) (.int .u64 0) (.int .u64 0)
  go_wp2_with fail
  clear j0 j1 j2 j3 j4 j5 y0 y1 y2 y3 y4 y5
  change bodyPost _ _ _ _ _ (set6 w2 q2 (.int .u64 0) (.string ⟨#[]⟩) (.int .u64 0) (.int .i64 0) (.int .u64 0) (.int .u64 0))
  generalize (set6 w2 q2 (.int .u64 0) (.string ⟨#[]⟩) (.int .u64 0) (.int .i64 0) (.int .u64 0) (.int .u64 0)) = w6 at *
  have j0 : w6.cell? ⟨q2, 0, none⟩ = some (.int .u64 0) := cell_of_block hH5 rfl
  have j1 : w6.cell? ⟨q2, 1, none⟩ = some (.string ⟨#[]⟩) := cell_of_block hH5 rfl
  have j2 : w6.cell? ⟨q2, 2, none⟩ = some (.int .u64 0) := cell_of_block hH5 rfl
  have j3 : w6.cell? ⟨q2, 3, none⟩ = some (.int .i64 0) := cell_of_block hH5 rfl
  have j4 : w6.cell? ⟨q2, 4, none⟩ = some (.int .u64 0) := cell_of_block hH5 rfl
  have j5 : w6.cell? ⟨q2, 5, none⟩ = some (.int .u64 0) := cell_of_block hH5 rfl
  refine bodyPost_ret (v := .tuple #[.agg #[.int .u64 0, .string ⟨#[]⟩, .int .u64 0, .int .i64 0, .int .u64 0, .int .u64 0], .int .i64 6]) (by simp [results, Try.results53, go_sem, j0, j1, j2, j3, j4, j5]) rfl ⟨rfl, hB2.trans (hus.below hB2.size (fun g hg e => by omega))⟩

set_option maxHeartbeats 1000000 in
set_option maxRecDepth 100000 in
/-- CreateIndex, where the name is not free. -/
theorem mkind_taken (h : BookAt c k w p tv iv T I last) (hl : LogAt cl kl w pl f L) {s : Snp} {rv : Value} (hr : Run w rv s.run) (name ofn : ByteArray) (hsz : name.size ≤ 4611686018427387904) (hn : isName name = true) {t : Nat × Ent × Value} (hf : findT f L s ofn T = some t) (E : Int) (hE : takenE f L s name ((ents T I).map (·.2)) 0 = E) (hE0 : E ≠ 0) :
    Calls Try.prog 53 #[.pointer (some ⟨p, 0, none⟩), .pointer (some ⟨pl, 0, none⟩), s.val rv, .string name, .string ofn, .string nameA] w fun r w' => r = .returned (.tuple #[idx0, .int .i64 E]) ∧ Below w.heap.size w w' := by
  have hnm := fun w' => name_any name w' hsz
  rw [hn] at hnm
  have htab : ∀ w', Below w.heap.size w w' → Calls Try.prog 67 #[.pointer (some ⟨p, 0, none⟩), .pointer (some ⟨pl, 0, none⟩), s.val rv, .string ofn] w' fun r w'' => r = .returned (.pointer (some ⟨t.1, 0, none⟩)) ∧ Below w'.heap.size w' w'' := fun w' hb => by
    have := table_at (h.same hb) (hl.same hb) (hr.same hb) ofn
    rw [hf] at this
    exact this
  have hta : ∀ w', Below w.heap.size w w' → Calls Try.prog 64 #[.pointer (some ⟨p, 0, none⟩), .pointer (some ⟨pl, 0, none⟩), s.val rv, .string name] w' fun r w'' => r = .returned (.int .i64 E) ∧ Below w'.heap.size w' w'' := fun w' hb => by
    have := taken_at (h.same hb) (hl.same hb) (hr.same hb) name
    rw [hE] at this; exact this
  have htt := (h.tabs t (findT_mem hf)).1
  have hcw : ∀ w', Below w.heap.size w w' → ColsAt w' t.2.2 := fun w' hb => htt.2.upd (S := fun _ => False) (Upd.same hb) (fun _ _ x => x)
  obtain ⟨b, te, cv⟩ := t
  obtain ⟨own, xmin, xmax, run⟩ := s
  unfold Snp.val at hta htab ⊢
  unfold idx0
  obtain ⟨ra, rc, hrv⟩ := ownsRow_slice hr.1
  subst hrv
  simp only at hta htab hcw ⊢
  have hrl := hr.2
  obtain ⟨g, cap, hcv, _, _⟩ := htt.2.cells
  simp only at hcv
  subst hcv
  have c4 : w.cell? ⟨b, 4, none⟩ = some (.slice (some ⟨g, 0, none⟩) 1 cap) := cell_of_block htt.1 rfl
  have hb : (E != 0) = true := by rw [bne_iff_ne]; exact hE0
  have HNM := Lib.hid hnm; have HTB := Lib.hid htab; have HTA := Lib.hid hta; have HCW := Lib.hid hcw
  clear hnm htab hta hcw htt h hl hr hn hE hE0 hf
  go_enter Try.func53, Try.ntmps53
  go_wp2_with fail
  obtain ⟨wz, hwz⟩ : ∃ wz, wz = mk3 w own xmin xmax (.slice ra run.length rc) := ⟨_, rfl⟩
  have hal := mk3_below w own xmin xmax (.slice ra run.length rc)
  have hH0 := mk3_0 w own xmin xmax (.slice ra run.length rc)
  have hH1 := mk3_1 w own xmin xmax (.slice ra run.length rc)
  have hH2 := mk3_2 w own xmin xmax (.slice ra run.length rc)
  rw [← hwz] at hal hH0 hH1 hH2
  unfold mk3 at hwz
  obtain ⟨q2, hq2⟩ : ∃ q2, q2 = w.heap.size + 1 + 1 := ⟨_, rfl⟩
  obtain ⟨q1, hq1⟩ : ∃ q1, q1 = w.heap.size + 1 := ⟨_, rfl⟩
  obtain ⟨q, hq⟩ : ∃ q, q = w.heap.size := ⟨_, rfl⟩
  rw [← hq2] at hH2
  rw [← hq1] at hH1
  rw [← hq] at hH0
  rw [← hwz, ← hq2, ← hq1, ← hq]
  have hq2w : w.heap.size ≤ q2 := by omega
  clear hwz hq2 hq1 hq
  refine (HNM.out _).mono ?_
  rintro r w1 ⟨rfl, hk1⟩
  have hB1 := hal.trans (hk1.mono hal.size)
  have hz1 := hk1
  have p0 : w1.cell? ⟨q, 0, none⟩ = some (.int .u64 own) := keeper hz1 (cell_of_block hH0 rfl)
  have p1 : w1.cell? ⟨q, 1, none⟩ = some (.int .u64 xmin) := keeper hz1 (cell_of_block hH0 rfl)
  have p2 : w1.cell? ⟨q, 2, none⟩ = some (.int .u64 xmax) := keeper hz1 (cell_of_block hH0 rfl)
  have p3 : w1.cell? ⟨q, 3, none⟩ = some (.slice ra run.length rc) := keeper hz1 (cell_of_block hH0 rfl)
  go_wp2_with fail
  refine (HTB.out _ hB1).mono ?_
  rintro r w2 ⟨rfl, hk2⟩
  have hB2 := hB1.trans (hk2.mono hB1.size)
  have hz2 := hz1.trans (hk2.mono hz1.size)
  clear p0 p1 p2 p3
  have c4' := keeper hB2 c4
  have hq1c : w2.cell? ⟨q1, 0, none⟩ = some (.string nameA) := keeper hz2 (cell_of_block hH1 rfl)
  have HIX := Lib.hid (idxf_at (HCW.out _ hB2) hq1c)
  clear c4 hq1c
  go_wp2_with fail
  refine HIX.out.mono ?_
  rintro r w3 ⟨rfl, hk3⟩
  have hB3 := hB2.trans (hk3.mono hB2.size)
  have hz3 := hz2.trans (hk3.mono hz2.size)
  clear HIX c4'
  have p0 : w3.cell? ⟨q, 0, none⟩ = some (.int .u64 own) := keeper hz3 (cell_of_block hH0 rfl)
  have p1 : w3.cell? ⟨q, 1, none⟩ = some (.int .u64 xmin) := keeper hz3 (cell_of_block hH0 rfl)
  have p2 : w3.cell? ⟨q, 2, none⟩ = some (.int .u64 xmax) := keeper hz3 (cell_of_block hH0 rfl)
  have p3 : w3.cell? ⟨q, 3, none⟩ = some (.slice ra run.length rc) := keeper hz3 (cell_of_block hH0 rfl)
  go_wp2_with fail
  refine (HTA.out _ hB3).mono ?_
  rintro r w4 ⟨rfl, hk4⟩
  have hB4 := hB3.trans (hk4.mono hB3.size)
  have hz4 := hz3.trans (hk4.mono hz3.size)
  clear p0 p1 p2 p3
  have hH3 := (Upd.same (S := fun _ => False) hz4).heap hH2 id
  have j0 : w4.cell? ⟨q2, 0, none⟩ = some (.int .u64 0) := cell_of_block hH3 rfl
  have j1 : w4.cell? ⟨q2, 1, none⟩ = some (.string ⟨#[]⟩) := cell_of_block hH3 rfl
  have j2 : w4.cell? ⟨q2, 2, none⟩ = some (.int .u64 0) := cell_of_block hH3 rfl
  have j3 : w4.cell? ⟨q2, 3, none⟩ = some (.int .i64 0) := cell_of_block hH3 rfl
  have j4 : w4.cell? ⟨q2, 4, none⟩ = some (.int .u64 0) := cell_of_block hH3 rfl
  have j5 : w4.cell? ⟨q2, 5, none⟩ = some (.int .u64 0) := cell_of_block hH3 rfl
  have y0 : w4.frozen? ⟨q2, 0, none⟩ = false := free_of_block hH3
  have y1 : w4.frozen? ⟨q2, 1, none⟩ = false := free_of_block hH3
  have y2 : w4.frozen? ⟨q2, 2, none⟩ = false := free_of_block hH3
  have y3 : w4.frozen? ⟨q2, 3, none⟩ = false := free_of_block hH3
  have y4 : w4.frozen? ⟨q2, 4, none⟩ = false := free_of_block hH3
  have y5 : w4.frozen? ⟨q2, 5, none⟩ = false := free_of_block hH3
  have hus := set6_upd (Upd.refl (fun g => g = q2) w4) (b := q2) (fun _ => rfl) (.int .u64 0) (.string ⟨#[]⟩) (.int .u64 0) (.int .i64 0) (.int .u64 0) (.int .u64 0)
  have hH5 := set6_heap hH3 (.int .u64 0) (.string ⟨#[]⟩) (.int .u64 0) (.int .i64 0) (.int .u64 0) (.int .u64 0)
  go_wp2_with fail
  clear j0 j1 j2 j3 j4 j5 y0 y1 y2 y3 y4 y5
  change bodyPost _ _ _ _ _ (set6 w4 q2 (.int .u64 0) (.string ⟨#[]⟩) (.int .u64 0) (.int .i64 0) (.int .u64 0) (.int .u64 0))
  generalize (set6 w4 q2 (.int .u64 0) (.string ⟨#[]⟩) (.int .u64 0) (.int .i64 0) (.int .u64 0) (.int .u64 0)) = w6 at *
  have j0 : w6.cell? ⟨q2, 0, none⟩ = some (.int .u64 0) := cell_of_block hH5 rfl
  have j1 : w6.cell? ⟨q2, 1, none⟩ = some (.string ⟨#[]⟩) := cell_of_block hH5 rfl
  have j2 : w6.cell? ⟨q2, 2, none⟩ = some (.int .u64 0) := cell_of_block hH5 rfl
  have j3 : w6.cell? ⟨q2, 3, none⟩ = some (.int .i64 0) := cell_of_block hH5 rfl
  have j4 : w6.cell? ⟨q2, 4, none⟩ = some (.int .u64 0) := cell_of_block hH5 rfl
  have j5 : w6.cell? ⟨q2, 5, none⟩ = some (.int .u64 0) := cell_of_block hH5 rfl
  refine bodyPost_ret (v := .tuple #[.agg #[.int .u64 0, .string ⟨#[]⟩, .int .u64 0, .int .i64 0, .int .u64 0, .int .u64 0], .int .i64 E]) (by simp [results, Try.results53, go_sem, j0, j1, j2, j3, j4, j5]) rfl ⟨rfl, hB4.trans (hus.below hB4.size (fun g hg e => by omega))⟩

set_option maxHeartbeats 1000000 in
set_option maxRecDepth 100000 in
/-- CreateIndex, where there is no room. -/
theorem mkind_full (h : BookAt c k w p tv iv T I last) (hl : LogAt cl kl w pl f L) {s : Snp} {rv : Value} (hr : Run w rv s.run) (name ofn : ByteArray) (hsz : name.size ≤ 4611686018427387904) (hn : isName name = true) {t : Nat × Ent × Value} (hf : findT f L s ofn T = some t) (hE : takenE f L s name ((ents T I).map (·.2)) 0 = 0) (hI : 16 ≤ I.length) :
    Calls Try.prog 53 #[.pointer (some ⟨p, 0, none⟩), .pointer (some ⟨pl, 0, none⟩), s.val rv, .string name, .string ofn, .string nameA] w fun r w' => r = .returned (.tuple #[idx0, .int .i64 12]) ∧ Below w.heap.size w w' := by
  have hnm := fun w' => name_any name w' hsz
  rw [hn] at hnm
  have htab : ∀ w', Below w.heap.size w w' → Calls Try.prog 67 #[.pointer (some ⟨p, 0, none⟩), .pointer (some ⟨pl, 0, none⟩), s.val rv, .string ofn] w' fun r w'' => r = .returned (.pointer (some ⟨t.1, 0, none⟩)) ∧ Below w'.heap.size w' w'' := fun w' hb => by
    have := table_at (h.same hb) (hl.same hb) (hr.same hb) ofn
    rw [hf] at this
    exact this
  have hta : ∀ w', Below w.heap.size w w' → Calls Try.prog 64 #[.pointer (some ⟨p, 0, none⟩), .pointer (some ⟨pl, 0, none⟩), s.val rv, .string name] w' fun r w'' => r = .returned (.int .i64 0) ∧ Below w'.heap.size w' w'' := fun w' hb => by
    have := taken_at (h.same hb) (hl.same hb) (hr.same hb) name
    rw [hE] at this; exact this
  have htt := (h.tabs t (findT_mem hf)).1
  have hcw : ∀ w', Below w.heap.size w w' → ColsAt w' t.2.2 := fun w' hb => htt.2.upd (S := fun _ => False) (Upd.same hb) (fun _ _ x => x)
  have hbl3 : ∀ w', Below w.heap.size w w' → ∃ ia ic, w'.cell? ⟨p, 1, none⟩ = some (.slice ia I.length ic) := fun w' hb => by
    obtain ⟨ta, tc, e⟩ := ownsRow_slice h.irow
    exact ⟨ta, tc, by rw [← e]; exact cell_of_block (h.same hb).blk rfl⟩
  obtain ⟨b, te, cv⟩ := t
  obtain ⟨own, xmin, xmax, run⟩ := s
  unfold Snp.val at hta htab ⊢
  unfold idx0
  obtain ⟨ra, rc, hrv⟩ := ownsRow_slice hr.1
  subst hrv
  simp only at hta htab hcw ⊢
  have hrl := hr.2
  obtain ⟨g, cap, hcv, _, _⟩ := htt.2.cells
  simp only at hcv
  subst hcv
  have c4 : w.cell? ⟨b, 4, none⟩ = some (.slice (some ⟨g, 0, none⟩) 1 cap) := cell_of_block htt.1 rfl
  have hI' : (16 : Int) ≤ (I.length : Int) := by omega
  have HNM := Lib.hid hnm; have HTB := Lib.hid htab; have HTA := Lib.hid hta; have HCW := Lib.hid hcw; have HBL := Lib.hid hbl3
  clear hnm htab hta hcw htt hbl3 h hl hr hn hE hf
  go_enter Try.func53, Try.ntmps53
  go_wp2_with fail
  obtain ⟨wz, hwz⟩ : ∃ wz, wz = mk3 w own xmin xmax (.slice ra run.length rc) := ⟨_, rfl⟩
  have hal := mk3_below w own xmin xmax (.slice ra run.length rc)
  have hH0 := mk3_0 w own xmin xmax (.slice ra run.length rc)
  have hH1 := mk3_1 w own xmin xmax (.slice ra run.length rc)
  have hH2 := mk3_2 w own xmin xmax (.slice ra run.length rc)
  rw [← hwz] at hal hH0 hH1 hH2
  unfold mk3 at hwz
  obtain ⟨q2, hq2⟩ : ∃ q2, q2 = w.heap.size + 1 + 1 := ⟨_, rfl⟩
  obtain ⟨q1, hq1⟩ : ∃ q1, q1 = w.heap.size + 1 := ⟨_, rfl⟩
  obtain ⟨q, hq⟩ : ∃ q, q = w.heap.size := ⟨_, rfl⟩
  rw [← hq2] at hH2
  rw [← hq1] at hH1
  rw [← hq] at hH0
  rw [← hwz, ← hq2, ← hq1, ← hq]
  have hq2w : w.heap.size ≤ q2 := by omega
  clear hwz hq2 hq1 hq
  refine (HNM.out _).mono ?_
  rintro r w1 ⟨rfl, hk1⟩
  have hB1 := hal.trans (hk1.mono hal.size)
  have hz1 := hk1
  have p0 : w1.cell? ⟨q, 0, none⟩ = some (.int .u64 own) := keeper hz1 (cell_of_block hH0 rfl)
  have p1 : w1.cell? ⟨q, 1, none⟩ = some (.int .u64 xmin) := keeper hz1 (cell_of_block hH0 rfl)
  have p2 : w1.cell? ⟨q, 2, none⟩ = some (.int .u64 xmax) := keeper hz1 (cell_of_block hH0 rfl)
  have p3 : w1.cell? ⟨q, 3, none⟩ = some (.slice ra run.length rc) := keeper hz1 (cell_of_block hH0 rfl)
  go_wp2_with fail
  refine (HTB.out _ hB1).mono ?_
  rintro r w2 ⟨rfl, hk2⟩
  have hB2 := hB1.trans (hk2.mono hB1.size)
  have hz2 := hz1.trans (hk2.mono hz1.size)
  clear p0 p1 p2 p3
  have c4' := keeper hB2 c4
  have hq1c : w2.cell? ⟨q1, 0, none⟩ = some (.string nameA) := keeper hz2 (cell_of_block hH1 rfl)
  have HIX := Lib.hid (idxf_at (HCW.out _ hB2) hq1c)
  clear c4 hq1c
  go_wp2_with fail
  refine HIX.out.mono ?_
  rintro r w3 ⟨rfl, hk3⟩
  have hB3 := hB2.trans (hk3.mono hB2.size)
  have hz3 := hz2.trans (hk3.mono hz2.size)
  clear HIX c4'
  have p0 : w3.cell? ⟨q, 0, none⟩ = some (.int .u64 own) := keeper hz3 (cell_of_block hH0 rfl)
  have p1 : w3.cell? ⟨q, 1, none⟩ = some (.int .u64 xmin) := keeper hz3 (cell_of_block hH0 rfl)
  have p2 : w3.cell? ⟨q, 2, none⟩ = some (.int .u64 xmax) := keeper hz3 (cell_of_block hH0 rfl)
  have p3 : w3.cell? ⟨q, 3, none⟩ = some (.slice ra run.length rc) := keeper hz3 (cell_of_block hH0 rfl)
  go_wp2_with fail
  refine (HTA.out _ hB3).mono ?_
  rintro r w4 ⟨rfl, hk4⟩
  have hB4 := hB3.trans (hk4.mono hB3.size)
  have hz4 := hz3.trans (hk4.mono hz3.size)
  clear p0 p1 p2 p3
  obtain ⟨ia, ic, k3⟩ := HBL.out _ hB4
  have hH3 := (Upd.same (S := fun _ => False) hz4).heap hH2 id
  have j0 : w4.cell? ⟨q2, 0, none⟩ = some (.int .u64 0) := cell_of_block hH3 rfl
  have j1 : w4.cell? ⟨q2, 1, none⟩ = some (.string ⟨#[]⟩) := cell_of_block hH3 rfl
  have j2 : w4.cell? ⟨q2, 2, none⟩ = some (.int .u64 0) := cell_of_block hH3 rfl
  have j3 : w4.cell? ⟨q2, 3, none⟩ = some (.int .i64 0) := cell_of_block hH3 rfl
  have j4 : w4.cell? ⟨q2, 4, none⟩ = some (.int .u64 0) := cell_of_block hH3 rfl
  have j5 : w4.cell? ⟨q2, 5, none⟩ = some (.int .u64 0) := cell_of_block hH3 rfl
  have y0 : w4.frozen? ⟨q2, 0, none⟩ = false := free_of_block hH3
  have y1 : w4.frozen? ⟨q2, 1, none⟩ = false := free_of_block hH3
  have y2 : w4.frozen? ⟨q2, 2, none⟩ = false := free_of_block hH3
  have y3 : w4.frozen? ⟨q2, 3, none⟩ = false := free_of_block hH3
  have y4 : w4.frozen? ⟨q2, 4, none⟩ = false := free_of_block hH3
  have y5 : w4.frozen? ⟨q2, 5, none⟩ = false := free_of_block hH3
  have hus := set6_upd (Upd.refl (fun g => g = q2) w4) (b := q2) (fun _ => rfl) (.int .u64 0) (.string ⟨#[]⟩) (.int .u64 0) (.int .i64 0) (.int .u64 0) (.int .u64 0)
  have hH5 := set6_heap hH3 (.int .u64 0) (.string ⟨#[]⟩) (.int .u64 0) (.int .i64 0) (.int .u64 0) (.int .u64 0)
  go_wp2_with fail
  clear j0 j1 j2 j3 j4 j5 y0 y1 y2 y3 y4 y5
  change bodyPost _ _ _ _ _ (set6 w4 q2 (.int .u64 0) (.string ⟨#[]⟩) (.int .u64 0) (.int .i64 0) (.int .u64 0) (.int .u64 0))
  generalize (set6 w4 q2 (.int .u64 0) (.string ⟨#[]⟩) (.int .u64 0) (.int .i64 0) (.int .u64 0) (.int .u64 0)) = w6 at *
  have j0 : w6.cell? ⟨q2, 0, none⟩ = some (.int .u64 0) := cell_of_block hH5 rfl
  have j1 : w6.cell? ⟨q2, 1, none⟩ = some (.string ⟨#[]⟩) := cell_of_block hH5 rfl
  have j2 : w6.cell? ⟨q2, 2, none⟩ = some (.int .u64 0) := cell_of_block hH5 rfl
  have j3 : w6.cell? ⟨q2, 3, none⟩ = some (.int .i64 0) := cell_of_block hH5 rfl
  have j4 : w6.cell? ⟨q2, 4, none⟩ = some (.int .u64 0) := cell_of_block hH5 rfl
  have j5 : w6.cell? ⟨q2, 5, none⟩ = some (.int .u64 0) := cell_of_block hH5 rfl
  refine bodyPost_ret (v := .tuple #[.agg #[.int .u64 0, .string ⟨#[]⟩, .int .u64 0, .int .i64 0, .int .u64 0, .int .u64 0], .int .i64 12]) (by simp [results, Try.results53, go_sem, j0, j1, j2, j3, j4, j5]) rfl ⟨rfl, hB4.trans (hus.below hB4.size (fun g hg e => by omega))⟩
end
end Go.Proofs.Ytdohkjpapmkhjaa
