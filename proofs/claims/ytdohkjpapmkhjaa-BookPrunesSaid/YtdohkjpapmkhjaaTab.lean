/-
  THE BOOK: Table: the visible one of a name, told.
-/
import Derived.Test.YtdohkjpapmkhjaaTold
namespace Go.Proofs.Ytdohkjpapmkhjaa
open Go.RowKit
section
variable {c cl : Nat → Nat} {k kl p pl : Nat} {w w' : World} {tv iv : Value} {T : List (Nat × Ent × Value)} {I : List (Nat × Ent × Int)} {last : Int} {f : Int} {L : List Nat}

set_option maxHeartbeats 1000000 in
set_option maxRecDepth 100000 in
/-- (*book.Book).Table: none. -/
theorem table_none (h : BookAt c k w p tv iv T I last) (hl : LogAt cl kl w pl f L) {s : Snp} {rv : Value} (hr : Run w rv s.run) (name : ByteArray) (hf : findT f L s name T = none) :
    Calls Try.prog 54 #[.pointer (some ⟨p, 0, none⟩), .pointer (some ⟨pl, 0, none⟩), s.val rv, .string name] w fun r w' => r = .returned (.tuple #[tabV ⟨0, ⟨#[]⟩, 0, 0⟩ (.slice none 0 0), .bool false]) ∧ Below w.heap.size w w' := by
  have htab : ∀ w', Below w.heap.size w w' → Calls Try.prog 67 #[.pointer (some ⟨p, 0, none⟩), .pointer (some ⟨pl, 0, none⟩), s.val rv, .string name] w' fun r w'' => r = .returned (.pointer none) ∧ Below w'.heap.size w' w'' := fun w' hb => by
    have := table_at (h.same hb) (hl.same hb) (hr.same hb) name
    rw [hf] at this
    exact this
  obtain ⟨own, xmin, xmax, run⟩ := s
  unfold Snp.val at htab ⊢
  unfold tabV
  obtain ⟨ra, rc, hrv⟩ := ownsRow_slice hr.1
  subst hrv
  simp only at htab ⊢
  have HT := Lib.hid htab
  clear htab h hl hr hf
  have hal : Below w.heap.size w ((w.alloc (.cells #[.int .u64 own, .int .u64 xmin, .int .u64 xmax, .slice ra run.length rc] 66)).alloc (.cells #[.int .u64 0, .string { data := #[] }, .slice none 0 0, .int .u64 0, .int .u64 0] 111)) := ((Below.refl _ _).alloc (Nat.le_refl _) _).alloc (by simp) _
  have hH := block_alloc (heap_new1 w (.cells #[.int .u64 own, .int .u64 xmin, .int .u64 xmax, .slice ra run.length rc] 66)) (.cells #[.int .u64 0, .string { data := #[] }, .slice none 0 0, .int .u64 0, .int .u64 0] 111)
  have hH2 := heap_new2 w (.cells #[.int .u64 own, .int .u64 xmin, .int .u64 xmax, .slice ra run.length rc] 66) (.cells #[.int .u64 0, .string { data := #[] }, .slice none 0 0, .int .u64 0, .int .u64 0] 111)
  go_enter Try.func54, Try.ntmps54
  go_wp2_with fail
  obtain ⟨wz, hwz⟩ : ∃ wz, wz = ((w.alloc (.cells #[.int .u64 own, .int .u64 xmin, .int .u64 xmax, .slice ra run.length rc] 66)).alloc (.cells #[.int .u64 0, .string { data := #[] }, .slice none 0 0, .int .u64 0, .int .u64 0] 111)) := ⟨_, rfl⟩
  obtain ⟨q, hq⟩ : ∃ q, q = w.heap.size := ⟨_, rfl⟩
  obtain ⟨q2, hq2⟩ : ∃ q2, q2 = w.heap.size + 1 := ⟨_, rfl⟩
  rw [← hwz] at hal hH hH2
  rw [← hq] at hH
  rw [← hq2] at hH2
  rw [← hwz, ← hq2, ← hq]
  have k20 : wz.cell? ⟨q2, 0, none⟩ = some (.int .u64 0) := cell_of_block hH2 rfl
  clear hwz
  have HQ := Lib.hid hq; have HQ2 := Lib.hid hq2
  clear hq hq2
  refine (HT.out _ hal).mono ?_
  rintro e w1 ⟨rfl, hk1⟩
  have hH3 := (Upd.same (S := fun _ => False) hk1).heap hH2 id
  have j0 : w1.cell? ⟨q2, 0, none⟩ = some (.int .u64 0) := cell_of_block hH3 rfl
  have j1 : w1.cell? ⟨q2, 1, none⟩ = some (.string { data := #[] }) := cell_of_block hH3 rfl
  have j2 : w1.cell? ⟨q2, 2, none⟩ = some (.slice none 0 0) := cell_of_block hH3 rfl
  have j3 : w1.cell? ⟨q2, 3, none⟩ = some (.int .u64 0) := cell_of_block hH3 rfl
  have j4 : w1.cell? ⟨q2, 4, none⟩ = some (.int .u64 0) := cell_of_block hH3 rfl
  have y0 : w1.frozen? ⟨q2, 0, none⟩ = false := free_of_block hH3
  have y1 : w1.frozen? ⟨q2, 1, none⟩ = false := free_of_block hH3
  have y2 : w1.frozen? ⟨q2, 2, none⟩ = false := free_of_block hH3
  have y3 : w1.frozen? ⟨q2, 3, none⟩ = false := free_of_block hH3
  have y4 : w1.frozen? ⟨q2, 4, none⟩ = false := free_of_block hH3
  have hB1 := hal.trans (hk1.mono hal.size)
  have hus := set5_upd (Upd.refl (fun g => g = q2) w1) (b := q2) (fun _ => rfl) (.int .u64 0) (.string { data := #[] }) (.slice none 0 0) (.int .u64 0) (.int .u64 0)
  have hH5 := set5_heap hH3 (.int .u64 0) (.string { data := #[] }) (.slice none 0 0) (.int .u64 0) (.int .u64 0)
  clear k20
  go_wp2_with fail
  clear j0 j1 j2 j3 j4 y0 y1 y2 y3 y4
  generalize (((((w1.setCell ⟨q2, 0, none⟩ (.int .u64 0)).setCell ⟨q2, 1, none⟩ (.string { data := #[] })).setCell ⟨q2, 2, none⟩ (.slice none 0 0)).setCell ⟨q2, 3, none⟩ (.int .u64 0)).setCell ⟨q2, 4, none⟩ (.int .u64 0)) = w6 at *
  have j0 : w6.cell? ⟨q2, 0, none⟩ = some (.int .u64 0) := cell_of_block hH5 rfl
  have j1 : w6.cell? ⟨q2, 1, none⟩ = some (.string { data := #[] }) := cell_of_block hH5 rfl
  have j2 : w6.cell? ⟨q2, 2, none⟩ = some (.slice none 0 0) := cell_of_block hH5 rfl
  have j3 : w6.cell? ⟨q2, 3, none⟩ = some (.int .u64 0) := cell_of_block hH5 rfl
  have j4 : w6.cell? ⟨q2, 4, none⟩ = some (.int .u64 0) := cell_of_block hH5 rfl
  refine bodyPost_ret (v := .tuple #[.agg #[.int .u64 0, .string { data := #[] }, .slice none 0 0, .int .u64 0, .int .u64 0], .bool false]) (by simp [results, Try.results54, go_sem, j0, j1, j2, j3, j4]) rfl ⟨rfl, hB1.trans (hus.below hB1.size (fun g hg e => by have := HQ2.out; omega))⟩

set_option maxHeartbeats 1000000 in
set_option maxRecDepth 100000 in
/-- (*book.Book).Table: one. -/
theorem table_some (h : BookAt c k w p tv iv T I last) (hl : LogAt cl kl w pl f L) {s : Snp} {rv : Value} (hr : Run w rv s.run) (name : ByteArray) {t : Nat × Ent × Value} (hf : findT f L s name T = some t) :
    Calls Try.prog 54 #[.pointer (some ⟨p, 0, none⟩), .pointer (some ⟨pl, 0, none⟩), s.val rv, .string name] w fun r w' => (∃ g cap, r = .returned (.tuple #[tabV t.2.1 (.slice (some ⟨g, 0, none⟩) 1 cap), .bool true])) ∧ Below w.heap.size w w' := by
  have htab : ∀ w', Below w.heap.size w w' → Calls Try.prog 67 #[.pointer (some ⟨p, 0, none⟩), .pointer (some ⟨pl, 0, none⟩), s.val rv, .string name] w' fun r w'' => r = .returned (.pointer (some ⟨t.1, 0, none⟩)) ∧ Below w'.heap.size w' w'' := fun w' hb => by
    have := table_at (h.same hb) (hl.same hb) (hr.same hb) name
    rw [hf] at this
    exact this
  have hto : ∀ w', Below w.heap.size w w' → Calls Try.prog 73 #[.pointer (some ⟨t.1, 0, none⟩)] w' fun r w'' => (∃ g cap, r = .returned (tabV t.2.1 (.slice (some ⟨g, 0, none⟩) 1 cap))) ∧ Below w'.heap.size w' w'' := fun w' hb => told_tab ((h.same hb).tabs t (findT_mem hf)).1
  unfold tabV at hto
  obtain ⟨b, ⟨eid, enm, exn, exx⟩, cv⟩ := t
  simp only at hto htab ⊢
  have HTO := Lib.hid hto
  clear hto
  obtain ⟨own, xmin, xmax, run⟩ := s
  unfold Snp.val at htab ⊢
  unfold tabV
  simp only
  obtain ⟨ra, rc, hrv⟩ := ownsRow_slice hr.1
  subst hrv
  simp only at htab ⊢
  have HT := Lib.hid htab
  clear htab h hl hr hf
  have hal : Below w.heap.size w ((w.alloc (.cells #[.int .u64 own, .int .u64 xmin, .int .u64 xmax, .slice ra run.length rc] 66)).alloc (.cells #[.int .u64 0, .string { data := #[] }, .slice none 0 0, .int .u64 0, .int .u64 0] 111)) := ((Below.refl _ _).alloc (Nat.le_refl _) _).alloc (by simp) _
  have hH := block_alloc (heap_new1 w (.cells #[.int .u64 own, .int .u64 xmin, .int .u64 xmax, .slice ra run.length rc] 66)) (.cells #[.int .u64 0, .string { data := #[] }, .slice none 0 0, .int .u64 0, .int .u64 0] 111)
  have hH2 := heap_new2 w (.cells #[.int .u64 own, .int .u64 xmin, .int .u64 xmax, .slice ra run.length rc] 66) (.cells #[.int .u64 0, .string { data := #[] }, .slice none 0 0, .int .u64 0, .int .u64 0] 111)
  go_enter Try.func54, Try.ntmps54
  go_wp2_with fail
  obtain ⟨wz, hwz⟩ : ∃ wz, wz = ((w.alloc (.cells #[.int .u64 own, .int .u64 xmin, .int .u64 xmax, .slice ra run.length rc] 66)).alloc (.cells #[.int .u64 0, .string { data := #[] }, .slice none 0 0, .int .u64 0, .int .u64 0] 111)) := ⟨_, rfl⟩
  obtain ⟨q, hq⟩ : ∃ q, q = w.heap.size := ⟨_, rfl⟩
  obtain ⟨q2, hq2⟩ : ∃ q2, q2 = w.heap.size + 1 := ⟨_, rfl⟩
  rw [← hwz] at hal hH hH2
  rw [← hq] at hH
  rw [← hq2] at hH2
  rw [← hwz, ← hq2, ← hq]
  have k20 : wz.cell? ⟨q2, 0, none⟩ = some (.int .u64 0) := cell_of_block hH2 rfl
  clear hwz
  have HQ := Lib.hid hq; have HQ2 := Lib.hid hq2
  clear hq hq2
  refine (HT.out _ hal).mono ?_
  rintro e w1 ⟨rfl, hk1⟩
  have hB1 := hal.trans (hk1.mono hal.size)
  go_wp2_with fail
  refine (HTO.out _ hB1).mono ?_
  rintro e w2 ⟨⟨g1, cap1, rfl⟩, hk2⟩
  have hB2 := hB1.trans (hk2.mono hB1.size)
  have hk12 := hk1.trans (hk2.mono hk1.size)
  have hH3 := (Upd.same (S := fun _ => False) hk12).heap hH2 id
  have j0 : w2.cell? ⟨q2, 0, none⟩ = some (.int .u64 0) := cell_of_block hH3 rfl
  have j1 : w2.cell? ⟨q2, 1, none⟩ = some (.string { data := #[] }) := cell_of_block hH3 rfl
  have j2 : w2.cell? ⟨q2, 2, none⟩ = some (.slice none 0 0) := cell_of_block hH3 rfl
  have j3 : w2.cell? ⟨q2, 3, none⟩ = some (.int .u64 0) := cell_of_block hH3 rfl
  have j4 : w2.cell? ⟨q2, 4, none⟩ = some (.int .u64 0) := cell_of_block hH3 rfl
  have y0 : w2.frozen? ⟨q2, 0, none⟩ = false := free_of_block hH3
  have y1 : w2.frozen? ⟨q2, 1, none⟩ = false := free_of_block hH3
  have y2 : w2.frozen? ⟨q2, 2, none⟩ = false := free_of_block hH3
  have y3 : w2.frozen? ⟨q2, 3, none⟩ = false := free_of_block hH3
  have y4 : w2.frozen? ⟨q2, 4, none⟩ = false := free_of_block hH3
  have hus := set5_upd (Upd.refl (fun g => g = q2) w2) (b := q2) (fun _ => rfl) (.int .u64 eid) (.string enm) (.slice (some ⟨g1, 0, none⟩) 1 cap1) (.int .u64 exn) (.int .u64 exx)
  have hH5 := set5_heap hH3 (.int .u64 eid) (.string enm) (.slice (some ⟨g1, 0, none⟩) 1 cap1) (.int .u64 exn) (.int .u64 exx)
  clear k20
  go_wp2_with fail
  clear j0 j1 j2 j3 j4 y0 y1 y2 y3 y4
  generalize (((((w2.setCell ⟨q2, 0, none⟩ (.int .u64 eid)).setCell ⟨q2, 1, none⟩ (.string enm)).setCell ⟨q2, 2, none⟩ (.slice (some ⟨g1, 0, none⟩) 1 cap1)).setCell ⟨q2, 3, none⟩ (.int .u64 exn)).setCell ⟨q2, 4, none⟩ (.int .u64 exx)) = w6 at *
  have j0 : w6.cell? ⟨q2, 0, none⟩ = some (.int .u64 eid) := cell_of_block hH5 rfl
  have j1 : w6.cell? ⟨q2, 1, none⟩ = some (.string enm) := cell_of_block hH5 rfl
  have j2 : w6.cell? ⟨q2, 2, none⟩ = some (.slice (some ⟨g1, 0, none⟩) 1 cap1) := cell_of_block hH5 rfl
  have j3 : w6.cell? ⟨q2, 3, none⟩ = some (.int .u64 exn) := cell_of_block hH5 rfl
  have j4 : w6.cell? ⟨q2, 4, none⟩ = some (.int .u64 exx) := cell_of_block hH5 rfl
  refine bodyPost_ret (v := .tuple #[.agg #[.int .u64 eid, .string enm, .slice (some ⟨g1, 0, none⟩) 1 cap1, .int .u64 exn, .int .u64 exx], .bool true]) (by simp [results, Try.results54, go_sem, j0, j1, j2, j3, j4]) rfl ⟨⟨g1, cap1, rfl⟩, hB2.trans (hus.below hB2.size (fun g hg e => by have := HQ2.out; omega))⟩
end
end Go.Proofs.Ytdohkjpapmkhjaa
