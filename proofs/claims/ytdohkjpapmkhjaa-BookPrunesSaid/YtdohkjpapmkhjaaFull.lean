/-
  CreateTable, where the book has sixteen tables already.
-/
import Derived.Test.YtdohkjpapmkhjaaCreate
namespace Go.Proofs.Ytdohkjpapmkhjaa
open Go.RowKit

section
variable {c cl : Nat → Nat} {k kl p pl : Nat} {w w' : World} {tv iv cv : Value} {T : List (Nat × Ent × Value)} {I : List (Nat × Ent × Int)} {last : Int} {f : Int} {L : List Nat}

set_option maxHeartbeats 2000000 in
set_option maxRecDepth 100000 in
/-- CreateTable, where there is no room. -/
theorem create_full (h : BookAt c k w p tv iv T I last) (hl : LogAt cl kl w pl f L) {s : Snp} {rv : Value} (hr : Run w rv s.run) (name : ByteArray) (hsz : name.size ≤ 4611686018427387904) (hc : ColsAt w cv) (hn : isName name = true)
    (hE : takenE f L s name ((ents T I).map (·.2)) 0 = 0) (hT : 16 ≤ T.length) :
    Calls Try.prog 48 #[.pointer (some ⟨p, 0, none⟩), .pointer (some ⟨pl, 0, none⟩), s.val rv, .string name, cv] w fun r w' => r = .returned (.tuple #[.int .u64 0, .int .i64 12]) ∧ Below w.heap.size w w' := by
  have hnm := fun w' => name_any name w' hsz
  rw [hn] at hnm
  have hri : ∀ w', Below w.heap.size w w' → Calls Try.prog 63 #[cv] w' fun r w'' => r = .returned (.bool true) ∧ Below w'.heap.size w' w'' := fun w' hb => right_at (hc.upd (S := fun _ => False) (Upd.same hb) (fun _ _ x => x))
  have hta : ∀ w', Below w.heap.size w w' → Calls Try.prog 64 #[.pointer (some ⟨p, 0, none⟩), .pointer (some ⟨pl, 0, none⟩), s.val rv, .string name] w' fun r w'' => r = .returned (.int .i64 0) ∧ Below w'.heap.size w' w'' := fun w' hb => by
    have := taken_at (h.same hb) (hl.same hb) (hr.same hb) name
    rw [hE] at this; exact this
  obtain ⟨g, cap, rfl, _, _⟩ := hc.cells
  obtain ⟨own, xmin, xmax, run⟩ := s
  unfold Snp.val at hta ⊢
  obtain ⟨ra, rc, hrv⟩ := ownsRow_slice hr.1
  subst hrv
  simp only at hta ⊢
  have hrl := hr.2
  have hbl3 : ∀ w', Below w.heap.size w w' → ∃ ta tc, tv = .slice ta T.length tc ∧ w'.cell? ⟨p, 0, none⟩ = some (.slice ta T.length tc) := fun w' hb => by
    obtain ⟨ta, tc, e⟩ := ownsRow_slice h.trow
    exact ⟨ta, tc, e, by rw [← e]; exact cell_of_block (h.same hb).blk rfl⟩
  have HBL := Lib.hid hbl3
  have HNM := Lib.hid hnm; have HRI := Lib.hid hri; have HTA := Lib.hid hta
  have hal : Below w.heap.size w (w.alloc (.cells #[.int .u64 own, .int .u64 xmin, .int .u64 xmax, .slice ra run.length rc] 66)) := (Below.refl _ _).alloc (Nat.le_refl _) _
  have hH := heap_new1 w (.cells #[.int .u64 own, .int .u64 xmin, .int .u64 xmax, .slice ra run.length rc] 66)
  clear hnm hn hr hri hta hE h hl hc hbl3
  go_enter Try.func48, Try.ntmps48
  go_wp2_with fail
  refine (HNM.out _).mono ?_
  rintro r w1 ⟨rfl, hk1⟩
  have hB1 := hal.trans (hk1.mono hal.size)
  go_wp2_with fail
  refine (HRI.out _ hB1).mono ?_
  rintro r w2 ⟨rfl, hk2⟩
  have hB2 := hB1.trans (hk2.mono hB1.size)
  have hk12 := hk1.trans (hk2.mono hk1.size)
  have q0 := keeper hk12 (cell_of_block hH (i := 0) rfl)
  have q1 := keeper hk12 (cell_of_block hH (i := 1) rfl)
  have q2 := keeper hk12 (cell_of_block hH (i := 2) rfl)
  have q3 := keeper hk12 (cell_of_block hH (i := 3) rfl)
  go_wp2_with fail
  refine (HTA.out _ hB2).mono ?_
  rintro r w3 ⟨rfl, hk3⟩
  have hB3 := hB2.trans (hk3.mono hB2.size)
  obtain ⟨ta, tc, htv, k3⟩ := HBL.out _ hB3
  have hT' : (16 : Int) ≤ (T.length : Int) := by omega
  go_wp2_with fail
  go_ret2
  exact ⟨rfl, hB3⟩
end
end Go.Proofs.Ytdohkjpapmkhjaa
