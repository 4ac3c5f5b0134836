/-
  THE BOOK: told: an index, a table, as others see them; Table: the visible one of a name.
-/
import Derived.Test.YtdohkjpapmkhjaaDropW
namespace Go.Proofs.Ytdohkjpapmkhjaa
open Go.RowKit

/-- An index, told. -/
def idxV (e : Ent) (tab : Int) : Value := .agg #[.int .u64 e.id, .string e.name, .int .u64 tab, .int .i64 0, .int .u64 e.xmin, .int .u64 e.xmax]
/-- A table, told; cv: its columns. -/
def tabV (e : Ent) (cv : Value) : Value := .agg #[.int .u64 e.id, .string e.name, cv, .int .u64 e.xmin, .int .u64 e.xmax]

section
variable {c cl : Nat → Nat} {k kl p pl : Nat} {w w' : World} {tv iv : Value} {T : List (Nat × Ent × Value)} {I : List (Nat × Ent × Int)} {last : Int} {f : Int} {L : List Nat}

set_option maxRecDepth 100000 in
/-- (*book.index).told. -/
theorem told_ind {t : Nat × Ent × Int} (h : IndAt w t) : Calls Try.prog 72 #[.pointer (some ⟨t.1, 0, none⟩)] w fun r w' => r = .returned (idxV t.2.1 t.2.2) ∧ Below w.heap.size w w' := by
  obtain ⟨b, ⟨eid, enm, exn, exx⟩, tab⟩ := t
  unfold IndAt at h
  simp only at h
  unfold idxV
  simp only
  have hb := lt_of_block h
  have hal : Below w.heap.size w (w.alloc (.cells #[.int .u64 0, .string { data := #[] }, .int .u64 0, .int .i64 0, .int .u64 0, .int .u64 0] 107)) := (Below.refl _ _).alloc (Nat.le_refl _) _
  have hH := heap_new1 w (.cells #[.int .u64 0, .string { data := #[] }, .int .u64 0, .int .i64 0, .int .u64 0, .int .u64 0] 107)
  have hI := (Upd.same (S := fun _ => False) hal).heap h id
  go_enter Try.func72, Try.ntmps72
  go_wp2_with fail
  obtain ⟨wz, hwz⟩ : ∃ wz, wz = w.alloc (.cells #[.int .u64 0, .string { data := #[] }, .int .u64 0, .int .i64 0, .int .u64 0, .int .u64 0] 107) := ⟨_, rfl⟩
  obtain ⟨q, hq⟩ : ∃ q, q = w.heap.size := ⟨_, rfl⟩
  rw [← hwz] at hal hH hI
  rw [← hwz]
  rw [← hq] at hH
  rw [← hq]
  have hqb : b ≠ q := by omega
  have k0 := cell_of_block hI (i := 0) rfl
  have k1 := cell_of_block hI (i := 1) rfl
  have k2 := cell_of_block hI (i := 2) rfl
  have k3 := cell_of_block hI (i := 3) rfl
  have k4 := cell_of_block hI (i := 4) rfl
  have k5 := cell_of_block hI (i := 5) rfl
  have kz0 := cell_of_block hH (i := 0) rfl
  have kz1 := cell_of_block hH (i := 1) rfl
  have kz2 := cell_of_block hH (i := 2) rfl
  have kz3 := cell_of_block hH (i := 3) rfl
  have kz4 := cell_of_block hH (i := 4) rfl
  have kz5 := cell_of_block hH (i := 5) rfl
  have fz0 : wz.frozen? ⟨q, 0, none⟩ = false := free_of_block hH
  have fz1 : wz.frozen? ⟨q, 1, none⟩ = false := free_of_block hH
  have fz2 : wz.frozen? ⟨q, 2, none⟩ = false := free_of_block hH
  have fz3 : wz.frozen? ⟨q, 3, none⟩ = false := free_of_block hH
  have fz4 : wz.frozen? ⟨q, 4, none⟩ = false := free_of_block hH
  have fz5 : wz.frozen? ⟨q, 5, none⟩ = false := free_of_block hH
  have hU6 := set6_upd (Upd.refl (fun g => g = q) wz) (b := q) (fun _ => rfl) (.int .u64 eid) (.string enm) (.int .u64 tab) (.int .i64 0) (.int .u64 exn) (.int .u64 exx)
  have hH6 := set6_heap hH (.int .u64 eid) (.string enm) (.int .u64 tab) (.int .i64 0) (.int .u64 exn) (.int .u64 exx)
  have HQ := Lib.hid hq
  clear hwz hq h hH hI
  go_still_tail 29, (by kernel_rfl)
  change wpList _ _ _ _ _ wz.drew
  go_wp2_with fail
  have j0 := cell_of_block hH6 (i := 0) rfl
  have j1 := cell_of_block hH6 (i := 1) rfl
  have j2 := cell_of_block hH6 (i := 2) rfl
  have j3 := cell_of_block hH6 (i := 3) rfl
  have j4 := cell_of_block hH6 (i := 4) rfl
  have j5 := cell_of_block hH6 (i := 5) rfl
  clear kz0 kz1 kz2 kz3 kz4 kz5 fz0 fz1 fz2 fz3 fz4 fz5 k0 k1 k2 k3 k4 k5
  change bodyPost _ _ _ _ _ (set6 wz q (.int .u64 eid) (.string enm) (.int .u64 tab) (.int .i64 0) (.int .u64 exn) (.int .u64 exx)).drew
  generalize (set6 wz q (.int .u64 eid) (.string enm) (.int .u64 tab) (.int .i64 0) (.int .u64 exn) (.int .u64 exx)) = w6 at *
  refine bodyPost_ret (v := .agg #[.int .u64 eid, .string enm, .int .u64 tab, .int .i64 0, .int .u64 exn, .int .u64 exx]) (by simp [results, Try.results72, go_sem, j0, j1, j2, j3, j4, j5]) rfl ⟨rfl, hal.trans ((hU6.drew).below hal.size (fun g hg e => by have := HQ.out; omega))⟩

theorem set5_heap {w : World} {b T : Nat} {z0 z1 z2 z3 z4 : Value} (h : w.heap[b]? = some (.cells #[z0, z1, z2, z3, z4] T (0, 0))) (v0 v1 v2 v3 v4 : Value) :
    (((((w.setCell ⟨b, 0, none⟩ v0).setCell ⟨b, 1, none⟩ v1).setCell ⟨b, 2, none⟩ v2).setCell ⟨b, 3, none⟩ v3).setCell ⟨b, 4, none⟩ v4).heap[b]? = some (.cells #[v0, v1, v2, v3, v4] T (0, 0)) := by
  rw [block_setCell (block_setCell (block_setCell (block_setCell (block_setCell h v0) v1) v2) v3) v4]; rfl
theorem set5_upd {S : Nat → Prop} {w0 w : World} {b : Nat} (u : Upd S w0 w) (hb : b < w0.heap.size → S b) (v0 v1 v2 v3 v4 : Value) : Upd S w0 (((((w.setCell ⟨b, 0, none⟩ v0).setCell ⟨b, 1, none⟩ v1).setCell ⟨b, 2, none⟩ v2).setCell ⟨b, 3, none⟩ v3).setCell ⟨b, 4, none⟩ v4) :=
  ((((u.setCell (a := ⟨b, 0, none⟩) v0 hb).setCell (a := ⟨b, 1, none⟩) v1 hb).setCell (a := ⟨b, 2, none⟩) v2 hb).setCell (a := ⟨b, 3, none⟩) v3 hb).setCell (a := ⟨b, 4, none⟩) v4 hb

set_option maxHeartbeats 4000000 in
set_option maxRecDepth 100000 in
/-- (*book.table).told. -/
theorem told_tab {t : Nat × Ent × Value} (h : TabAt w t) : Calls Try.prog 73 #[.pointer (some ⟨t.1, 0, none⟩)] w fun r w' => (∃ g cap, r = .returned (tabV t.2.1 (.slice (some ⟨g, 0, none⟩) 1 cap))) ∧ Below w.heap.size w w' := by
  obtain ⟨b, ⟨eid, enm, exn, exx⟩, cv⟩ := t
  obtain ⟨h, hc⟩ := h
  simp only at h hc
  unfold tabV
  simp only
  have hb := lt_of_block h
  obtain ⟨gc, capc, hcv, _, _⟩ := hc.cells
  have hal : Below w.heap.size w (w.alloc (.cells #[.int .u64 0, .string { data := #[] }, .slice none 0 0, .int .u64 0, .int .u64 0] 111)) := (Below.refl _ _).alloc (Nat.le_refl _) _
  have hH := heap_new1 w (.cells #[.int .u64 0, .string { data := #[] }, .slice none 0 0, .int .u64 0, .int .u64 0] 111)
  have hI := (Upd.same (S := fun _ => False) hal).heap h id
  have hcl : ∀ w', Below w.heap.size w w' → Calls Try.prog 66 #[cv] w' fun r w'' => ∃ v, r = .returned v ∧ ColsAt w'' v ∧ (∀ g, v.ownBlock = some g → w'.heap.size ≤ g) ∧ Below w'.heap.size w' w'' := fun w' hb => clone_at (hc.upd (S := fun _ => False) (Upd.same hb) (fun _ _ x => x))
  subst hcv
  have HCL := Lib.hid hcl
  clear hcl hc
  go_enter Try.func73, Try.ntmps73
  go_wp2_with fail
  obtain ⟨wz, hwz⟩ : ∃ wz, wz = w.alloc (.cells #[.int .u64 0, .string { data := #[] }, .slice none 0 0, .int .u64 0, .int .u64 0] 111) := ⟨_, rfl⟩
  obtain ⟨q, hq⟩ : ∃ q, q = w.heap.size := ⟨_, rfl⟩
  rw [← hwz] at hal hH hI
  rw [← hwz]
  rw [← hq] at hH
  rw [← hq]
  have hqb : b ≠ q := by omega
  have hqz : q < wz.heap.size := lt_of_block hH
  have k0 : wz.cell? ⟨b, 0, none⟩ = some (.int .u64 eid) := cell_of_block hI rfl
  have k1 : wz.cell? ⟨b, 1, none⟩ = some (.string enm) := cell_of_block hI rfl
  have k2 : wz.cell? ⟨b, 2, none⟩ = some (.int .u64 exn) := cell_of_block hI rfl
  have k3 : wz.cell? ⟨b, 3, none⟩ = some (.int .u64 exx) := cell_of_block hI rfl
  have k4 : wz.cell? ⟨b, 4, none⟩ = some (.slice (some ⟨gc, 0, none⟩) 1 capc) := cell_of_block hI rfl
  have HQ := Lib.hid hq
  have hC0 : Below w.heap.size w wz.drew := hal.trans (below_drewN (n := 1))
  have hZ0 : Below wz.heap.size wz wz.drew := below_drewN (n := 1)
  clear hwz hq h hI
  go_region_held3 (fun z => z.cell? ⟨b, 0, none⟩ = some (.int .u64 eid) ∧ z.cell? ⟨b, 1, none⟩ = some (.string enm) ∧ z.cell? ⟨b, 2, none⟩ = some (.int .u64 exn) ∧ z.cell? ⟨b, 3, none⟩ = some (.int .u64 exx) ∧ z.cell? ⟨b, 4, none⟩ = some (.slice (some ⟨gc, 0, none⟩) 1 capc))
    (first | (with_reducible exact ⟨keeper hZ0 k0, keeper hZ0 k1, keeper hZ0 k2, keeper hZ0 k3, keeper hZ0 k4⟩) | (with_reducible exact ⟨keeper hZ1 k0, keeper hZ1 k1, keeper hZ1 k2, keeper hZ1 k3, keeper hZ1 k4⟩) | (with_reducible exact ⟨hus.cell (keeper hZ1 k0) hqb, hus.cell (keeper hZ1 k1) hqb, hus.cell (keeper hZ1 k2) hqb, hus.cell (keeper hZ1 k3) hqb, hus.cell (keeper hZ1 k4) hqb⟩))
    (first
      | (go_at_call 66; (with_reducible refine (HCL.out _ hC0).mono ?_); rintro e w1 ⟨v, rfl, hcv, _, hk1⟩; obtain ⟨g1, cap1, rfl, _, _⟩ := hcv.cells; clear hcv; have hC1 := hC0.trans (hk1.mono hC0.size); have hZ1 := hZ0.trans (hk1.mono hZ0.size); have hH1 := (Upd.same (S := fun _ => False) hZ1).heap hH id; have z0 : w1.cell? ⟨q, 0, none⟩ = some (.int .u64 0) := cell_of_block hH1 rfl; have z1 : w1.cell? ⟨q, 1, none⟩ = some (.string { data := #[] }) := cell_of_block hH1 rfl; have z2 : w1.cell? ⟨q, 2, none⟩ = some (.slice none 0 0) := cell_of_block hH1 rfl; have z3 : w1.cell? ⟨q, 3, none⟩ = some (.int .u64 0) := cell_of_block hH1 rfl; have z4 : w1.cell? ⟨q, 4, none⟩ = some (.int .u64 0) := cell_of_block hH1 rfl; have y0 : w1.frozen? ⟨q, 0, none⟩ = false := free_of_block hH1; have y1 : w1.frozen? ⟨q, 1, none⟩ = false := free_of_block hH1; have y2 : w1.frozen? ⟨q, 2, none⟩ = false := free_of_block hH1; have y3 : w1.frozen? ⟨q, 3, none⟩ = false := free_of_block hH1; have y4 : w1.frozen? ⟨q, 4, none⟩ = false := free_of_block hH1; have hus := set5_upd (Upd.refl (fun g => g = q) w1) (b := q) (fun _ => rfl) (.int .u64 eid) (.string enm) (.slice (some ⟨g1, 0, none⟩) 1 cap1) (.int .u64 exn) (.int .u64 exx)))
  clear k0 k1 k2 k3 k4 z0 z1 z2 z3 z4 y0 y1 y2 y3 y4
  try clear hH_1
  have hH5 := set5_heap hH1 (.int .u64 eid) (.string enm) (.slice (some ⟨g1, 0, none⟩) 1 cap1) (.int .u64 exn) (.int .u64 exx)
  generalize (((((w1.setCell ⟨q, 0, none⟩ (.int .u64 eid)).setCell ⟨q, 1, none⟩ (.string enm)).setCell ⟨q, 2, none⟩ (.slice (some ⟨g1, 0, none⟩) 1 cap1)).setCell ⟨q, 3, none⟩ (.int .u64 exn)).setCell ⟨q, 4, none⟩ (.int .u64 exx)) = w6 at *
  have j0 : w6.cell? ⟨q, 0, none⟩ = some (.int .u64 eid) := cell_of_block hH5 rfl
  have j1 : w6.cell? ⟨q, 1, none⟩ = some (.string enm) := cell_of_block hH5 rfl
  have j2 : w6.cell? ⟨q, 2, none⟩ = some (.slice (some ⟨g1, 0, none⟩) 1 cap1) := cell_of_block hH5 rfl
  have j3 : w6.cell? ⟨q, 3, none⟩ = some (.int .u64 exn) := cell_of_block hH5 rfl
  have j4 : w6.cell? ⟨q, 4, none⟩ = some (.int .u64 exx) := cell_of_block hH5 rfl
  go_wp2_with fail
  refine bodyPost_ret (v := .agg #[.int .u64 eid, .string enm, .slice (some ⟨g1, 0, none⟩) 1 cap1, .int .u64 exn, .int .u64 exx]) (by simp [results, Try.results73, go_sem, j0, j1, j2, j3, j4]) rfl ⟨⟨g1, cap1, rfl⟩, hC1.trans (hus.below hC1.size (fun g hg e => by have := HQ.out; omega))⟩
end
end Go.Proofs.Ytdohkjpapmkhjaa
