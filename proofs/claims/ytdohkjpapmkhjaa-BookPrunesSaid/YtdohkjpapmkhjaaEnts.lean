/-
  ENTRIES OF THE BOOK (book.entry): tuple, visible, alive, dead: what they come to, of any entry in memory.
-/
import Derived.Test.YtdohkjpapmkhjaaNames
import Derived.Test.YtdohkjpapmkhjaaRests
import Derived.StillTailTactics
namespace Go.Proofs.Ytdohkjpapmkhjaa
open Go.RowKit

/-- An entry, plainly. -/
structure Ent where
  id : Int
  name : ByteArray
  xmin : Int
  xmax : Int
def EntAt (w : World) (b : Nat) (e : Ent) : Prop :=
  w.cell? ⟨b, 0, none⟩ = some (.int .u64 e.id) ∧ w.cell? ⟨b, 1, none⟩ = some (.string e.name) ∧ w.cell? ⟨b, 2, none⟩ = some (.int .u64 e.xmin) ∧ w.cell? ⟨b, 3, none⟩ = some (.int .u64 e.xmax)
section
variable {c : Nat → Nat} {k p b : Nat} {w w' : World} {f : Int} {L : List Nat} {e : Ent}
theorem EntAt.same (h : EntAt w b e) (u : Below w.heap.size w w') : EntAt w' b e := ⟨keeper u h.1, keeper u h.2.1, keeper u h.2.2.1, keeper u h.2.2.2⟩

set_option maxRecDepth 100000 in
/-- (*book.entry).tuple. -/
theorem etuple_at (h : EntAt w b e) : Calls Try.prog 82 #[.pointer (some ⟨b, 0, none⟩)] w fun r w' => r = .returned (tup e.xmin e.xmax) ∧ Below w.heap.size w w' := by
  obtain ⟨_, _, h2, h3⟩ := h
  obtain ⟨a, ha⟩ : ∃ a, a = e.xmin := ⟨_, rfl⟩
  obtain ⟨x, hx⟩ : ∃ x, x = e.xmax := ⟨_, rfl⟩
  rw [← ha] at h2 ⊢
  rw [← hx] at h3 ⊢
  clear ha hx
  have hb := World.block_lt_of_cell? w _ h2
  simp only at hb
  have hal : Below w.heap.size w (w.alloc (.cells #[.int .u64 0, .int .u64 0, .int .u64 0, .int .i64 0, .int .i64 0, .slice none 0 0] 76)) := (Below.refl _ _).alloc (Nat.le_refl _) _
  have k2 := keeper hal h2
  have k3 := keeper hal h3
  have hH := heap_new1 w (.cells #[.int .u64 0, .int .u64 0, .int .u64 0, .int .i64 0, .int .i64 0, .slice none 0 0] 76)
  go_enter Try.func82, Try.ntmps82
  go_wp2_with fail
  obtain ⟨wz, hwz⟩ : ∃ wz, wz = w.alloc (.cells #[.int .u64 0, .int .u64 0, .int .u64 0, .int .i64 0, .int .i64 0, .slice none 0 0] 76) := ⟨_, rfl⟩
  obtain ⟨q, hq⟩ : ∃ q, q = w.heap.size := ⟨_, rfl⟩
  rw [← hwz] at hal k2 k3 hH
  rw [← hwz]
  rw [← hq] at hH
  rw [← hq]
  have hqb : b ≠ q := by omega
  have kz0 := cell_of_block hH (i := 0) rfl
  have kz1 := cell_of_block hH (i := 1) rfl
  have kz2 := cell_of_block hH (i := 2) rfl
  have kz3 := cell_of_block hH (i := 3) rfl
  have kz4 := cell_of_block hH (i := 4) rfl
  have kz5 := cell_of_block hH (i := 5) rfl
  have fz0 : wz.frozen? ⟨q, 0, none⟩ = false := free_of_block hH
  have fz1 : wz.frozen? ⟨q, 1, none⟩ = false := free_of_block hH
  have fz2 : wz.frozen? ⟨q, 2, none⟩ = false := free_of_block hH
  have fz3 : wz.frozen? ⟨q, 3, none⟩ = false := free_of_block hH
  have fz4 : wz.frozen? ⟨q, 4, none⟩ = false := free_of_block hH
  have fz5 : wz.frozen? ⟨q, 5, none⟩ = false := free_of_block hH
  have hU6 := set6_upd (Upd.refl (fun g => g = q) wz) (b := q) (fun _ => rfl) (.int .u64 0) (.int .u64 a) (.int .u64 x) (.int .i64 0) (.int .i64 0) (.slice none 0 0)
  have hH6 := set6_heap hH (.int .u64 0) (.int .u64 a) (.int .u64 x) (.int .i64 0) (.int .i64 0) (.slice none 0 0)
  have HQ := Lib.hid hq
  clear hwz hq h2 h3
  go_still_tail 9, (by kernel_rfl)
  change wpList _ _ _ _ _ wz.drew
  go_wp2_with fail
  have j0 := cell_of_block hH6 (i := 0) rfl
  have j1 := cell_of_block hH6 (i := 1) rfl
  have j2 := cell_of_block hH6 (i := 2) rfl
  have j3 := cell_of_block hH6 (i := 3) rfl
  have j4 := cell_of_block hH6 (i := 4) rfl
  have j5 := cell_of_block hH6 (i := 5) rfl
  clear kz0 kz1 kz2 kz3 kz4 kz5 fz0 fz1 fz2 fz3 fz4 fz5 k2 k3
  change bodyPost _ _ _ _ _ (set6 wz q (.int .u64 0) (.int .u64 a) (.int .u64 x) (.int .i64 0) (.int .i64 0) (.slice none 0 0)).drew
  generalize (set6 wz q (.int .u64 0) (.int .u64 a) (.int .u64 x) (.int .i64 0) (.int .i64 0) (.slice none 0 0)) = w6 at *
  refine bodyPost_ret (v := tup a x) (by simp [results, Try.results82, go_sem, tup, j0, j1, j2, j3, j4, j5]) rfl ⟨rfl, hal.trans ((hU6.drew).below hal.size (fun g hg e => by have := HQ.out; omega))⟩

/-- (*book.entry).visible. -/
theorem evis_at (h : LogAt c k w p f L) (he : EntAt w b e) {s : Snp} {rv : Value} (hr : Run w rv s.run) :
    Calls Try.prog 68 #[.pointer (some ⟨b, 0, none⟩), .pointer (some ⟨p, 0, none⟩), s.val rv] w fun r w' => r = .returned (.bool (vis f L s e.xmin e.xmax)) ∧ Below w.heap.size w w' := by
  have hv0 : ∀ w', Below w.heap.size w w' → Calls Try.prog 35 #[.pointer (some ⟨p, 0, none⟩), s.val rv, tup e.xmin e.xmax] w' fun r w'' => r = .returned (.bool (vis f L s e.xmin e.xmax)) ∧ Below w'.heap.size w' w'' := fun w' hb => vis_at (h.same hb) (hr.same hb) _ _
  have ht0 : ∀ w', Below w.heap.size w w' → Calls Try.prog 82 #[.pointer (some ⟨b, 0, none⟩)] w' fun r w'' => r = .returned (tup e.xmin e.xmax) ∧ Below w'.heap.size w' w'' := fun w' hb => etuple_at (he.same hb)
  obtain ⟨v, hv⟩ : ∃ v, v = vis f L s e.xmin e.xmax := ⟨_, rfl⟩
  rw [← hv] at hv0 ⊢
  obtain ⟨a, ha⟩ : ∃ a, a = e.xmin := ⟨_, rfl⟩
  obtain ⟨x, hx⟩ : ∃ x, x = e.xmax := ⟨_, rfl⟩
  rw [← ha, ← hx] at hv0 ht0
  unfold tup at hv0 ht0
  obtain ⟨own, xmin, xmax, run⟩ := s
  unfold Snp.val at hv0 ⊢
  simp only at hv0 hr ⊢
  obtain ⟨ra, rc, hrv⟩ := ownsRow_slice hr.1
  subst hrv
  have HV := Lib.hid hv0
  have HT := Lib.hid ht0
  have hal : Below w.heap.size w (w.alloc (.cells #[.int .u64 own, .int .u64 xmin, .int .u64 xmax, .slice ra run.length rc] 66)) := (Below.refl _ _).alloc (Nat.le_refl _) _
  clear hv0 ht0 ha hx hv
  have hH := heap_new1 w (.cells #[.int .u64 own, .int .u64 xmin, .int .u64 xmax, .slice ra run.length rc] 66)
  go_enter Try.func68, Try.ntmps68
  go_wp2_with fail
  have k0 := cell_of_block hH (i := 0) rfl
  have k1 := cell_of_block hH (i := 1) rfl
  have k2 := cell_of_block hH (i := 2) rfl
  have k3 := cell_of_block hH (i := 3) rfl
  obtain ⟨wz, hwz⟩ : ∃ wz, wz = w.alloc (.cells #[.int .u64 own, .int .u64 xmin, .int .u64 xmax, .slice ra run.length rc] 66) := ⟨_, rfl⟩
  obtain ⟨q, hq⟩ : ∃ q, q = w.heap.size := ⟨_, rfl⟩
  rw [← hwz] at hal k0 k1 k2 k3
  rw [← hwz, ← hq]
  rw [← hq] at k0 k1 k2 k3
  have hC0 : Below w.heap.size w wz.drew := hal.trans (below_drewN (n := 1))
  have hZ0 : Below wz.heap.size wz wz.drew := below_drewN (n := 1)
  clear hwz hq hH
  go_region_held3 (fun z => z.cell? ⟨q, 0, none⟩ = some (.int .u64 own) ∧ z.cell? ⟨q, 1, none⟩ = some (.int .u64 xmin) ∧ z.cell? ⟨q, 2, none⟩ = some (.int .u64 xmax) ∧ z.cell? ⟨q, 3, none⟩ = some (.slice ra run.length rc))
    (first | exact ⟨keeper hZ2 k0, keeper hZ2 k1, keeper hZ2 k2, keeper hZ2 k3⟩ | exact ⟨keeper hZ1 k0, keeper hZ1 k1, keeper hZ1 k2, keeper hZ1 k3⟩ | exact ⟨keeper hZ0 k0, keeper hZ0 k1, keeper hZ0 k2, keeper hZ0 k3⟩)
    (first
      | (have _h := hC1; go_at_call 35; (with_reducible refine (HV.out _ hC1).mono ?_); rintro e w2 ⟨rfl, hk2⟩; have hC2 := hC1.trans (hk2.mono hC1.size); have hZ2 := hZ1.trans (hk2.mono hZ1.size))
      | (go_at_call 82; (with_reducible refine (HT.out _ hC0).mono ?_); rintro e w1 ⟨rfl, hk1⟩; have hC1 := hC0.trans (hk1.mono hC0.size); have hZ1 := hZ0.trans (hk1.mono hZ0.size)))
  go_wp2_with fail
  go_ret
  exact ⟨rfl, hC2⟩

/-- (*book.entry).dead. -/
theorem edead_at (h : LogAt c k w p f L) (he : EntAt w b e) (hz : Int) :
    Calls Try.prog 76 #[.pointer (some ⟨b, 0, none⟩), .pointer (some ⟨p, 0, none⟩), .int .u64 hz] w fun r w' => r = .returned (.bool (deadB f L e.xmin e.xmax hz)) ∧ Below w.heap.size w w' := by
  have hv0 : ∀ w', Below w.heap.size w w' → Calls Try.prog 38 #[.pointer (some ⟨p, 0, none⟩), tup e.xmin e.xmax, .int .u64 hz] w' fun r w'' => r = .returned (.bool (deadB f L e.xmin e.xmax hz)) ∧ Below w'.heap.size w' w'' := fun w' hb => dead_at (h.same hb) _ _ _
  have ht0 := etuple_at he
  obtain ⟨v, hv⟩ : ∃ v, v = deadB f L e.xmin e.xmax hz := ⟨_, rfl⟩
  rw [← hv] at hv0 ⊢
  unfold tup at hv0 ht0
  have HV := Lib.hid hv0
  have HT := Lib.hid ht0
  clear hv0 ht0 hv
  go_enter Try.func76, Try.ntmps76
  go_wp2_with (first
    | (go_at_call 82; (with_reducible refine HT.out.mono ?_); rintro r w1 ⟨rfl, hk1⟩)
    | (go_at_call 38; (with_reducible refine (HV.out _ hk1).mono ?_); rintro r w2 ⟨rfl, hk2⟩))
  go_ret
  exact ⟨rfl, hk1.trans (hk2.mono hk1.size)⟩

/-- Does it stand in the way, for anybody? -/
def aliveB (f : Int) (L : List Nat) (e : Ent) : Bool := (((stt f L e.xmin : Nat) : Int) != 3) && (((stt f L e.xmax : Nat) : Int) != 2)
/-- (*book.entry).alive. -/
theorem ealive_at (h : LogAt c k w p f L) (he : EntAt w b e) :
    Calls Try.prog 81 #[.pointer (some ⟨b, 0, none⟩), .pointer (some ⟨p, 0, none⟩)] w fun r w' => r = .returned (.bool (aliveB f L e)) ∧ ∃ n, w' = w.drewN n := by
  have hs1 := fun n => state_at (h.drewN n) e.xmin
  have hs2 := fun n => state_at (h.drewN n) e.xmax
  unfold aliveB
  obtain ⟨sa, hsa⟩ : ∃ z, z = ((stt f L e.xmin : Nat) : Int) := ⟨_, rfl⟩
  obtain ⟨sb, hsb⟩ : ∃ z, z = ((stt f L e.xmax : Nat) : Int) := ⟨_, rfl⟩
  rw [← hsa] at hs1 ⊢
  rw [← hsb] at hs2 ⊢
  obtain ⟨h0, h1, h2, h3⟩ := he
  have HS1 := Lib.hid hs1
  have HS2 := Lib.hid hs2
  clear hs1 hs2 hsa hsb
  by_cases e1 : sa = 3
  · have d1 : (sa != 3) = false := by rw [e1]; rfl
    clear e1
    go_enter Try.func81, Try.ntmps81
    go_wp2_with fail
    refine (HS1.out 0).mono ?_
    rintro r w1 ⟨rfl, n, rfl⟩
    go_wp2_with fail
    go_ret
    exact ⟨by rw [d1]; rfl, _, rfl⟩
  · have d1 : (sa != 3) = true := by rw [bne_iff_ne]; exact e1
    clear e1
    go_enter Try.func81, Try.ntmps81
    go_wp2_with fail
    refine (HS1.out 0).mono ?_
    rintro r w1 ⟨rfl, n, rfl⟩
    go_wp2_with fail
    refine (HS2.out n).mono ?_
    rintro r w1 ⟨rfl, n2, rfl⟩
    go_wp2_with fail
    go_ret
    exact ⟨by rw [d1]; rfl, _, rfl⟩
end
end Go.Proofs.Ytdohkjpapmkhjaa
