/-
  lapidarylaw19.awake: the document's examples.
-/
import Derived.Test.YtifcdfilglbdgaaGroups
import Derived.Test.YtifcdfilglbdgaaUniq
namespace Go.Proofs.Ytifcdfilglbdgaa
open Go.RowKit

def nV (n : Int) : V := ⟨1, n, ⟨#[]⟩, false⟩
def zV : V := ⟨0, 0, ⟨#[]⟩, false⟩
def RA : List (List V) := [[nV 2], [nV 1], [nV 2], [zV]]
theorem RA_one : ∀ r ∈ RA, r.length = 1 := by decide
theorem RA_groups : grps (kf RA) RA.length = [[0, 2], [1], [3]] := by decide +kernel
theorem RA_sort {C : List Int} (h1 : C.Perm (idxs RA.length)) (h2 : Srt (ltN RA []) C) : C = [3, 1, 0, 2] := by
  refine srt_unique (ltN_swo RA_one []) (fun x hx => ?_) (h1.trans ?_) h2 ?_
  · exact mem_idxs.1 (h1.mem_iff.1 hx)
  · decide
  · refine List.pairwise_cons.2 ⟨fun y hy => ?_, List.pairwise_cons.2 ⟨fun y hy => ?_, List.pairwise_cons.2 ⟨fun y hy => ?_, List.pairwise_singleton _ _⟩⟩⟩
    · simp only [List.mem_cons, List.not_mem_nil, or_false] at hy
      rcases hy with rfl | rfl | rfl <;> exact .inl (by decide +kernel)
    · simp only [List.mem_cons, List.not_mem_nil, or_false] at hy
      rcases hy with rfl | rfl <;> exact .inl (by decide +kernel)
    · simp only [List.mem_cons, List.not_mem_nil, or_false] at hy
      subst hy
      exact .inr ⟨by decide +kernel, by decide⟩
theorem RA_back {C : List Int} (h1 : C.Perm (idxs RA.length)) (h2 : Srt (ltN RA [true]) C) : C = [0, 2, 1, 3] := by
  refine srt_unique (ltN_swo RA_one [true]) (fun x hx => ?_) (h1.trans ?_) h2 ?_
  · exact mem_idxs.1 (h1.mem_iff.1 hx)
  · decide
  · refine List.pairwise_cons.2 ⟨fun y hy => ?_, List.pairwise_cons.2 ⟨fun y hy => ?_, List.pairwise_cons.2 ⟨fun y hy => ?_, List.pairwise_singleton _ _⟩⟩⟩
    · simp only [List.mem_cons, List.not_mem_nil, or_false] at hy
      rcases hy with rfl | rfl | rfl
      · exact .inr ⟨by decide +kernel, by decide⟩
      · exact .inl (by decide +kernel)
      · exact .inl (by decide +kernel)
    · simp only [List.mem_cons, List.not_mem_nil, or_false] at hy
      rcases hy with rfl | rfl <;> exact .inl (by decide +kernel)
    · simp only [List.mem_cons, List.not_mem_nil, or_false] at hy
      subst hy
      exact .inl (by decide +kernel)

set_option maxHeartbeats 4000000 in
set_option maxRecDepth 100000 in
theorem awake_at (w : World) : Calls Try.prog 9 #[] w fun e w' => e = .returned (.bool true) ∧ Below w.heap.size w w' := by
  go_enter Try.func9, Try.ntmps9
  go_wp2_with fail
  refine (num_at 2 w).mono ?_
  rintro e w1 ⟨⟨g1, rfl, h1⟩, b1⟩
  go_wp2_with fail
  refine (num_at 1 w1).mono ?_
  rintro e w2 ⟨⟨g2, rfl, h2⟩, b2⟩
  go_wp2_with fail
  refine (num_at 2 w2).mono ?_
  rintro e w3 ⟨⟨g3, rfl, h3⟩, b3⟩
  go_wp2_with fail
  have hal := below_then (below_alloc w3 (.cells #[.int .u8 0, .int .i64 0, .string ⟨#[]⟩, .bool false] 39)) (below_alloc _ (.cells #[.slice (some ⟨g1, 0, none⟩) 1 1, .slice (some ⟨g2, 0, none⟩) 1 1, .slice (some ⟨g3, 0, none⟩) 1 1, .slice (some ⟨w3.heap.size, 0, none⟩) 1 1] 34))
  have hA := block_alloc (heap_new1 w3 (.cells #[.int .u8 0, .int .i64 0, .string ⟨#[]⟩, .bool false] 39)) (.cells #[.slice (some ⟨g1, 0, none⟩) 1 1, .slice (some ⟨g2, 0, none⟩) 1 1, .slice (some ⟨g3, 0, none⟩) 1 1, .slice (some ⟨w3.heap.size, 0, none⟩) 1 1] 34)
  have hB := heap_new2 w3 (.cells #[.int .u8 0, .int .i64 0, .string ⟨#[]⟩, .bool false] 39) (.cells #[.slice (some ⟨g1, 0, none⟩) 1 1, .slice (some ⟨g2, 0, none⟩) 1 1, .slice (some ⟨g3, 0, none⟩) 1 1, .slice (some ⟨w3.heap.size, 0, none⟩) 1 1] 34)
  obtain ⟨w4, hw4⟩ : ∃ w4, w4 = ((w3.alloc (.cells #[.int .u8 0, .int .i64 0, .string ⟨#[]⟩, .bool false] 39)).alloc (.cells #[.slice (some ⟨g1, 0, none⟩) 1 1, .slice (some ⟨g2, 0, none⟩) 1 1, .slice (some ⟨g3, 0, none⟩) 1 1, .slice (some ⟨w3.heap.size, 0, none⟩) 1 1] 34)) := ⟨_, rfl⟩
  obtain ⟨q2, hq2⟩ : ∃ q2, q2 = w3.heap.size + 1 := ⟨_, rfl⟩
  rw [← hw4] at hal hA hB
  rw [← hq2] at hB
  rw [← hw4, ← hq2]
  clear hw4 hq2
  have r1 := ((h1.same b2).same b3).same hal
  have r2 := (h2.same b3).same hal
  have r3 := h3.same hal
  have r4 : RowAt w4 (.slice (some ⟨w3.heap.size, 0, none⟩) 1 1) [zV] := RowAt.one (v := zV) hA
  have hK : KeysAt w4 (.slice (some ⟨q2, 0, none⟩) 4 4) RA := ⟨_, 4, rfl, by decide, fun i hi => by
    match i, hi with
    | 0, _ => exact ⟨q2, 0, _, rfl, cell_of_block hB rfl, r1⟩
    | 1, _ => exact ⟨q2, 0, _, rfl, cell_of_block hB rfl, r2⟩
    | 2, _ => exact ⟨q2, 0, _, rfl, cell_of_block hB rfl, r3⟩
    | 3, _ => exact ⟨q2, 0, _, rfl, cell_of_block hB rfl, r4⟩⟩
  have hB4 := below_then b1 (below_then b2 (below_then b3 hal))
  have HK := Lib.hid hK
  clear r1 r2 r3 r4 h1 h2 h3 hA hB b1 b2 b3 hal hK
  refine (groups_at HK.out).mono ?_
  rintro e w5 ⟨gv, vals, rfl, hG, b5⟩
  rw [RA_groups] at hG
  have HG := Lib.hid hG
  clear hG
  go_wp2_with fail
  refine (sort_at (HK.out.same b5) (DescAt.nil w5) RA_one (.inr (stableOk_small (by decide)))).mono ?_
  rintro e w6 ⟨sv, C, rfl, p1, p2, hs, b6⟩
  obtain rfl := RA_sort p1 p2
  have HS := Lib.hid hs
  clear p1 p2 hs
  have hal7 := below_alloc w6 (.cells #[.bool true] 4)
  have h7 := heap_new1 w6 (.cells #[.bool true] 4)
  have hd7 : DescAt (w6.alloc (.cells #[.bool true] 4)) (.slice (some ⟨w6.heap.size, 0, none⟩) 1 1) [true] := ⟨_, 1, rfl, by decide, fun i hi => by
    have : i = 0 := by simp at hi; exact hi
    subst this
    exact ⟨_, 0, rfl, cell_of_block h7 rfl⟩⟩
  have HD := Lib.hid hd7
  have HB7 := Lib.hid (below_then b6 hal7)
  clear hd7 h7
  go_wp2_with fail
  refine (sort_at ((HK.out.same b5).same HB7.out) HD.out RA_one (.inr (stableOk_small (by decide)))).mono ?_
  rintro e w8 ⟨tv, C, rfl, p1, p2, ht, b8⟩
  obtain rfl := RA_back p1 p2
  clear p1 p2
  have hb58 := below_then HB7.out b8
  have hG8 := HG.out.same hb58
  have hS8 := (HS.out.same hal7).same b8
  obtain ⟨gg, gc, rfl, _, _, _⟩ := ownsRow_some hG8.row (by decide)
  have hl := hG8.len
  obtain ⟨u0, hu0⟩ : ∃ u, vals[0]? = some u := ⟨_, List.getElem?_eq_getElem (by simp [hl])⟩
  obtain ⟨g', c', e1, x0, _⟩ := ownsRow_cell1 hG8.row hu0
  simp only [Value.slice.injEq, Option.some.injEq, Addr.mk.injEq] at e1
  obtain ⟨⟨rfl, _⟩, _, rfl⟩ := e1
  obtain ⟨gu, cu, rfl, x1, _⟩ := ownsRow_cell1 (hG8.each 0 (by decide) u0 hu0) (j := 1) (u := .int .i64 2) rfl
  obtain ⟨sa, scp, rfl, _, hsc⟩ := hS8
  obtain ⟨sb, so, rfl, y0⟩ := hsc 0 (by decide)
  obtain ⟨sb', so', e2, y2⟩ := hsc 2 (by decide)
  simp only [Option.some.injEq, Addr.mk.injEq] at e2
  obtain ⟨rfl, rfl, _⟩ := e2
  obtain ⟨ta, tcp, rfl, _, htc⟩ := ht
  obtain ⟨tb, to, rfl, z0⟩ := htc 0 (by decide)
  obtain ⟨tb', to', e3, z3⟩ := htc 3 (by decide)
  simp only [Option.some.injEq, Addr.mk.injEq] at e3
  obtain ⟨rfl, rfl, _⟩ := e3
  have x0' : w8.cell? ⟨gg, 0, none⟩ = some (.slice (some ⟨gu, 0, none⟩) 2 cu) := x0
  have x1' : w8.cell? ⟨gu, 1, none⟩ = some (.int .i64 2) := x1
  have y0' : w8.cell? ⟨sb, so, none⟩ = some (.int .i64 3) := y0
  have y2' : w8.cell? ⟨sb, so + 2, none⟩ = some (.int .i64 0) := y2
  have z0' : w8.cell? ⟨tb, to, none⟩ = some (.int .i64 0) := z0
  have z3' : w8.cell? ⟨tb, to + 3, none⟩ = some (.int .i64 3) := z3
  have HB := Lib.hid (below_then hB4 (below_then b5 hb58))
  clear x0 x1 y0 y2 z0 z3 hG8 hsc htc hl hu0 b5 b6 b8 hal7 hb58 hB4
  go_wp2_with fail
  go_ret
  exact ⟨rfl, HB.out⟩
end Go.Proofs.Ytifcdfilglbdgaa
