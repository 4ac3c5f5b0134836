/-
  FoldGroups, the walk: the document's groups are the program's.
-/
import Derived.Test.YtifcdfilglbdgaaFew3
import Derived.Test.YtifcdfilglbdgaaAwake
import Derived.Test.YtifcdfilglbdgaaRgrp
namespace Go.Proofs.Ytifcdfilglbdgaa
open Go.RowKit

/-- A group's row: its cell, and the row of numbers that stands there. -/
theorem GrpRow.cellAt {base : Nat} {w : World} {v : Value} {vals : List Value} {G : List (List Nat)} (h : GrpRow base w v vals G) (hG : ∀ g (hg : g < G.length), (G[g]).length ≤ 1000) : ∃ a c, v = .slice a G.length c ∧ ∃ (gb : Nat) (uf : Nat → Value), ∀ g (hg : g < G.length), a = some ⟨gb, 0, none⟩ ∧ w.cell? ⟨gb, g, none⟩ = some (uf g) ∧ IntsAt w (uf g) ((G[g]).map (fun x : Nat => (x : Int))) := by
  obtain ⟨a, c, e⟩ := ownsRow_slice h.row
  have hvl := h.len
  refine ⟨a, c, e, ?_⟩
  subst e
  by_cases h0 : G.length = 0
  · exact ⟨0, fun _ => .bool false, fun i hi => by omega⟩
  · obtain ⟨gg, c1, e1, _⟩ := ownsRow_cell1 h.row (List.getElem?_eq_getElem (by omega : 0 < vals.length))
    simp only [Value.slice.injEq] at e1
    obtain ⟨rfl, _, rfl⟩ := e1
    refine ⟨gg, fun i => vals.getD i (.bool false), fun i hi => ⟨rfl, ?_, ?_⟩⟩
    · have hu : vals[i]? = some (vals[i]'(by omega)) := List.getElem?_eq_getElem (by omega)
      obtain ⟨gg2, c2, e2, x2, _⟩ := ownsRow_cell1 h.row hu
      simp only [Value.slice.injEq, Option.some.injEq, Addr.mk.injEq] at e2
      obtain ⟨⟨rfl, _⟩, _⟩ := e2
      rw [x2]; simp [List.getD, hu]
    · have hu : vals[i]? = some (vals[i]'(by omega)) := List.getElem?_eq_getElem (by omega)
      have hr := h.each i hi _ hu
      have he : vals.getD i (.bool false) = vals[i]'(by omega) := by simp [List.getD, hu]
      show IntsAt w (vals.getD i (.bool false)) _
      rw [he]
      refine IntsAt.row (base := base) (e := 3) ?_ (by simpa using hG i hi)
      rw [List.length_map, List.map_map]
      exact hr

set_option maxHeartbeats 4000000 in
set_option maxRecDepth 100000 in
theorem foldGroups_any {w : World} {lv : Value} {L : List (List V)} (hL : KeysIn w lv L) {n : Int} (hn0 : 0 ≤ n) (_hn : n < 256) :
    Calls Try.prog 3 #[lv, .int .u8 n] w fun e w' => e = .returned (.bool true) ∧ Below w.heap.size w w' := by
  obtain ⟨la, lc, hlv⟩ : ∃ a c, lv = .slice a L.length c := by obtain ⟨a, c, e, _⟩ := hL; exact ⟨a, c, e⟩
  have HL := Lib.hid hL
  clear hL
  obtain ⟨m, hm, hm4⟩ : ∃ m : Nat, n.tmod 4 = m ∧ m ≤ 3 := by
    refine ⟨(n.tmod 4).toNat, ?_, ?_⟩
    · rw [Int.tmod_eq_emod_of_nonneg hn0]; omega
    · rw [Int.tmod_eq_emod_of_nonneg hn0]; omega
  have hfew : ∀ w', Below w.heap.size w w' → Calls Try.prog 10 #[lv, .int .i64 m] w' _ := fun w' hb => few_at (HL.out.same hb) hm4
  have HFEW := Lib.hid hfew
  clear hfew
  subst hlv
  go_enter Try.func3, Try.ntmps3
  go_wp2_with fail
  refine (awake_at w).mono ?_
  rintro e w1 ⟨rfl, b1⟩
  go_wp2_with fail
  refine (HFEW.out w1 b1).mono ?_
  rintro e w2 ⟨kv, rfl, hK, hform, b2⟩
  have hB2 := below_then b1 b2
  obtain ⟨F, hF⟩ : ∃ F, F = fewR m L := ⟨_, rfl⟩
  rw [← hF] at hK hform
  clear hF HFEW hform
  have hg1 := groups_at hK
  have hg2 := fun w' hb => refGroups_at (hK.same (w' := w') hb)
  have HG1 := Lib.hid hg1; have HG2 := Lib.hid hg2
  clear hg1 hg2
  obtain ⟨G, hGe⟩ : ∃ G, G = grps (kf F) F.length := ⟨_, rfl⟩
  rw [← hGe] at HG1 HG2
  have hkl : F.length ≤ 1000 := by obtain ⟨a, c, e, h, _⟩ := hK; exact h
  have hgn : ∀ g (h : g < G.length), (G[g]).length ≤ 1000 := fun g h => by
    subst hGe
    simp only [grps, List.getElem_map, grpOf]
    exact Nat.le_trans (List.length_filter_le _ _) (by simp; omega)
  have hG40 : G.length ≤ 1000 := by
    rw [hGe, grps_len]; unfold firsts
    exact Nat.le_trans (List.length_filter_le _ _) (by simp; omega)
  obtain ⟨ka, kc, hkv⟩ : ∃ a c, kv = .slice a F.length c := by obtain ⟨a, c, e, _⟩ := hK; exact ⟨a, c, e⟩
  subst hkv
  have HGE := Lib.hid hGe
  clear hK hGe
  go_wp2_with fail
  refine HG1.out.mono ?_
  rintro e w3 ⟨gv, vals, rfl, hGr, b3⟩
  go_wp2_with fail
  refine (HG2.out w3 b3).mono ?_
  rintro e w4 ⟨hv, vals2, rfl, hGs, b4⟩
  obtain ⟨ga, gc, rfl, gb, gf, hgc⟩ := (hGr.same b4).cellAt hgn
  obtain ⟨ha, hc, rfl, hb, hf, hhc⟩ := hGs.cellAt hgn
  have HGC := Lib.hid hgc; have HHC := Lib.hid hhc
  have hB4 : Below w.heap.size w w4 := below_then hB2 (below_then b3 b4)
  clear hgc hhc hGr hGs HG1 HG2
  go_wp2_with fail
  go_loopw [27] (fun iv wr => ∃ i : Nat, i ≤ G.length ∧ iv = .int .i64 i ∧ Below w4.heap.size w4 wr) (fun iv _ => G.length - (intOf iv).toNat)
  case atStart => exact ⟨0, Nat.zero_le _, rfl, Below.refl _ _⟩
  case round =>
    obtain ⟨i, hi, rfl, hA⟩ := hrel
    by_cases hlt : i < G.length
    · have hi0 : (0 : Int) ≤ (i : Int) := by omega
      have hi1 : (i : Int) < (G.length : Int) := by omega
      obtain ⟨rfl, cg0, ig⟩ := HGC.out i hlt
      obtain ⟨rfl, ch0, ih⟩ := HHC.out i hlt
      have cg := keeper hA cg0
      have ch := keeper hA ch0
      have hcl : ∀ w', Below w4.heap.size w4 w' → Calls Try.prog 13 #[gf i, hf i] w' fun e w'' => e = .returned (.bool true) ∧ Below w'.heap.size w' w'' := fun w' hb => (sameInts_at (ig.same (w' := w') hb) (ih.same hb)).mono fun e w'' ⟨h1, k, h2⟩ => ⟨h1, h2 ▸ below_drewN⟩
      have HCL := Lib.hid hcl
      have hd0 : Below wr.heap.size wr wr.drew := below_drewN (n := 1)
      have hA0 := below_then hA hd0
      clear hcl ig ih cg0 ch0
      go_wp2_with fail
      go_region_held3 (fun z => z.cell? ⟨gb, i, none⟩ = some (gf i) ∧ z.cell? ⟨hb, i, none⟩ = some (hf i))
        (first | (with_reducible exact ⟨keeper hd1 cg, keeper hd1 ch⟩) | (with_reducible exact ⟨keeper hd0 cg, keeper hd0 ch⟩))
        (first | (go_at_call 13; (with_reducible refine (HCL.out _ hA0).mono ?_); rintro e w5 ⟨rfl, hk5⟩; have hd1 := below_then hd0 hk5))
      go_wp2_with fail
      go_roundw
      case rel => exact ⟨i + 1, by omega, by go_num, hA.trans (hd1.mono hA.size)⟩
      case measure => simp [intOf]; omega
    · have hin : i = G.length := by omega
      subst hin
      go_wp2_with fail
      go_ret
      exact ⟨rfl, below_then hB4 hA⟩
end Go.Proofs.Ytifcdfilglbdgaa
