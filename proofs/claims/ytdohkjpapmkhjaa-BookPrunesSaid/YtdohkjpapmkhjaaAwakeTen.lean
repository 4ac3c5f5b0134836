/-
  LAYER 10's EXAMPLE ('awake'): it answers true.
-/
import Derived.Test.YtdohkjpapmkhjaaTake
namespace Go.Proofs.Ytdohkjpapmkhjaa
open Go.RowKit

set_option maxHeartbeats 1000000 in
set_option maxRecDepth 100000 in
theorem awake_ten (w : World) : Calls Try.prog 31 #[] w fun e w' => e = .returned (.bool true) ∧ Below w.heap.size w w' := by
  go_enter Try.func31, Try.ntmps31
  go_wp2_with fail
  refine (new_own 1 w (by decide) (by decide)).mono ?_
  rintro e w1 ⟨rfl, l1, b1⟩
  go_wp2_with fail
  refine (begin_own l1 (by decide) b1.size).mono ?_
  rintro e w2 ⟨rfl, l2, b2⟩
  go_wp2_with fail
  have z2 := (b1.trans b2).size
  refine (begin_own l2 (by decide) z2).mono ?_
  rintro e w3 ⟨rfl, l3, b3⟩
  have b03 := (b1.trans b2).trans b3
  have l3' : LogAt (col (own w.heap.size) w3.heap.size 7) 1 w3 w.heap.size 1 [1, 1] := LogAt.recol (L := [1, 1]) l3 (fun b hb => col_old hb)
  clear l1 l2 l3 b1 b2 b3 z2
  go_wp2_with fail
  refine (take_at l3' 2).mono ?_
  have e4 : Ytdohkjpapmkhjaa.take 1 [1, 1] 2 = ⟨2, 1, 3, [1]⟩ := rfl
  rw [e4]
  rintro e w4 ⟨rv, rfl, hr, hrn, b4⟩
  clear e4
  have l4 := l3'.same b4
  obtain ⟨ra, rc, rfl⟩ := ownsRow_slice hr.1
  unfold Snp.val
  go_wp2_with fail
  have hal : Below w3.heap.size w3 (w4.alloc (.cells #[.int .u64 2, .int .u64 1, .int .u64 3, .slice ra [(1 : Int)].length rc] 66)) := b4.alloc b4.size _
  refine (commit_at (l3'.same hal) 1).mono ?_
  rintro e w5 ⟨rfl, l5, u5⟩
  have l5' : LogAt (col (own w.heap.size) w3.heap.size 7) 1 w5 w.heap.size 1 [2, 1] := l5
  have h5 := u5.heap (heap_new1 w4 _) (by rw [col_new b4.size]; decide)
  have hr5 : Run w5 (.slice ra [(1 : Int)].length rc) [1] := (hr.alloc _).upd u5 (fun b hb e => by rw [col_new (hrn b hb)] at e; exact absurd e (by decide))
  have c0 := cell_of_block h5 (i := 0) rfl
  have c1 := cell_of_block h5 (i := 1) rfl
  have c2 := cell_of_block h5 (i := 2) rfl
  have c3 := cell_of_block h5 (i := 3) rfl
  have b05 : Below w.heap.size w w5 := (b03.trans (hal.mono b03.size)).trans (u5.below (by have := hal.size; have := b03.size; omega) (fun b hb e => by rw [col_old (by have := b03.size; omega), own, col_old hb] at e; exact absurd e (by decide)))
  have hs1 : sees 1 [2, 1] ⟨2, 1, 3, [1]⟩ 1 = false := by decide
  have hv1 := sees_at (s := ⟨2, 1, 3, [1]⟩) l5' hr5 1
  unfold Snp.val at hv1
  rw [hs1] at hv1
  clear l4 l5 u5 hal h5 hr hrn hs1 l3'
  go_wp2_with fail
  refine hv1.mono ?_
  rintro e w6 ⟨rfl, b6⟩
  have l6 := l5'.same b6
  have e7 : Ytdohkjpapmkhjaa.take 1 [2, 1] 2 = ⟨2, 3, 3, []⟩ := rfl
  go_wp2_with fail
  refine (take_at l6 2).mono ?_
  rw [e7]
  rintro e w7 ⟨rv7, rfl, hr7, hrn7, b7⟩
  clear e7
  have hv2 := sees_at (s := ⟨2, 3, 3, []⟩) (l6.same b7) hr7 1
  have hs2 : sees 1 [2, 1] ⟨2, 3, 3, []⟩ 1 = true := by decide
  rw [hs2] at hv2
  have b07 : Below w.heap.size w w7 := (b05.trans (b6.mono b05.size)).trans (b7.mono (b05.trans (b6.mono b05.size)).size)
  go_wp2_with fail
  refine hv2.mono ?_
  rintro e w8 ⟨rfl, b8⟩
  go_wp2_with fail
  go_ret
  exact ⟨rfl, b07.trans (b8.mono b07.size)⟩
end Go.Proofs.Ytdohkjpapmkhjaa
