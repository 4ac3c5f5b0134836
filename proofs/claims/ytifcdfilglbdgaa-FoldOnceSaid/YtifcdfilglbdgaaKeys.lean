/-
  FoldKeys, the walk: two rows are in one group just if none of their keys is ahead of the other one.
-/
import Derived.Test.YtifcdfilglbdgaaFew3
import Derived.Test.YtifcdfilglbdgaaAwake
import Derived.Test.YtifcdfilglbdgaaFlat
namespace Go.Proofs.Ytifcdfilglbdgaa
open Go.RowKit

theorem key3 : KeyKind Try.prog 3 (Value.int .i64) := keyKind_int Try.underlying3
theorem zero3 (w : World) : (zeroValue 3).run Try.prog w = .ok (.int .i64 0) w := by kernel_rfl
theorem alikeR {a b : List K} (h : a.length = b.length) : (!lessR a b [] && !lessR b a []) = decide (a = b) := by
  by_cases e : a = b
  · subst e; rw [lessR_irrefl]; simp
  · cases h1 : lessR a b [] with
    | true => simp [e]
    | false =>
      cases h2 : lessR b a [] with
      | true => simp [e]
      | false => exact absurd (lessR_total [] h h1 h2) e

set_option maxHeartbeats 4000000 in
set_option maxRecDepth 100000 in
theorem foldKeys_any {w : World} {lv : Value} {L : List (List V)} (hL : KeysIn w lv L) :
    Calls Try.prog 6 #[lv] w fun e w' => e = .returned (.bool true) ∧ Below w.heap.size w w' := by
  obtain ⟨la, lc, hlv⟩ : ∃ a c, lv = .slice a L.length c := by obtain ⟨a, c, e, _⟩ := hL; exact ⟨a, c, e⟩
  have HL := Lib.hid hL
  clear hL
  have hfew : ∀ w', Below w.heap.size w w' → Calls Try.prog 10 #[lv, .int .i64 2] w' _ := fun w' hb => few_at (HL.out.same hb) (by decide : 2 ≤ 3)
  have HFEW := Lib.hid hfew
  clear hfew
  subst hlv
  have hmm := @run_makeMap Try.prog
  go_enter Try.func6, Try.ntmps6
  go_wp2_with fail
  refine (awake_at w).mono ?_
  rintro e w1 ⟨rfl, b1⟩
  go_wp2_with fail
  refine (HFEW.out w1 b1).mono ?_
  rintro e w2 ⟨kv, rfl, hK, hform, b2⟩
  have hB2 := below_then b1 b2
  have hall := fewR_all 2 L
  have hlen := fewR_len 2 L
  obtain ⟨F, hF⟩ : ∃ F, F = fewR 2 L := ⟨_, rfl⟩
  rw [← hF] at hK hform hall hlen
  clear hF HFEW
  have hm0 := MapOf.made w2 (Value.int .i64)
  have halm : Below w2.heap.size w2 (w2.alloc (.map #[] 0)) := below_alloc _ _
  have hK3 := hK.same halm
  have hgr := groups_at hK3
  have HGR := Lib.hid hgr
  clear hgr hK3
  obtain ⟨ka, kc, hkv⟩ : ∃ a c, kv = .slice a F.length c := by obtain ⟨a, c, e, _⟩ := hK; exact ⟨a, c, e⟩
  subst hkv
  go_wp2_with fail
  refine HGR.out.mono ?_
  rintro e w3 ⟨gv, vals, rfl, hG, b3⟩
  clear hform HGR
  obtain ⟨pm, hpm⟩ : ∃ pm, pm = w2.heap.size := ⟨_, rfl⟩
  have hm3 := hm0.same b3
  rw [← hpm] at hm3
  rw [← hpm]
  have hb23 : Below w2.heap.size w2 w3 := below_then halm b3
  have hpm2 : (w2.alloc (.map #[] 0)).heap.size = pm + 1 := by rw [hpm]; simp
  rw [hpm2] at hG
  obtain ⟨G, hGe⟩ : ∃ G, G = grps (kf F) F.length := ⟨_, rfl⟩
  have hGl : G.length = (firsts (kf F) F.length).length := by rw [hGe]; exact grps_len
  have hne : ∀ g (h : g < G.length), 0 < (G[g]).length := fun g h => by
    subst hGe
    obtain ⟨l, hl⟩ := grps_at h
    rw [hl]; simp
  have hgn : ∀ g (h : g < G.length), (G[g]).length ≤ 1000 := fun g h => by
    subst hGe
    simp only [grps, List.getElem_map, grpOf]
    exact Nat.le_trans (List.length_filter_le _ _) (by simp; omega)
  have hG40 : G.length ≤ 1000 := by
    rw [hGl]; unfold firsts
    exact Nat.le_trans (List.length_filter_le _ _) (by simp; omega)
  rw [← hGe] at hG
  obtain ⟨ga, gc, hgv⟩ := ownsRow_slice hG.row
  have hvl := hG.len
  have hgc : ∀ g (hg : g < G.length), ∃ gg ug uc, ga = some ⟨gg, 0, none⟩ ∧ gg ≠ pm ∧ ug ≠ pm ∧ w3.cell? ⟨gg, g, none⟩ = some (.slice (some ⟨ug, 0, none⟩) (G[g]).length uc) ∧ ∀ t (ht : t < (G[g]).length), w3.cell? ⟨ug, t, none⟩ = some (.int .i64 ((G[g])[t] : Nat)) := fun g hg => by
    have hu : vals[g]? = some (vals[g]'(by omega)) := List.getElem?_eq_getElem (by omega)
    obtain ⟨gg, c1, e1, x1, _, hb1, _⟩ := ownsRow_cell1 hG.row hu
    rw [hgv] at e1
    simp only [Value.slice.injEq] at e1
    obtain ⟨rfl, _, rfl⟩ := e1
    have hr := hG.each g hg _ hu
    obtain ⟨ug, uc, e2, _, hb2, _⟩ := ownsRow_some hr (hne g hg)
    refine ⟨gg, ug, uc, rfl, by omega, by omega, by rw [x1, e2], fun t ht => ?_⟩
    obtain ⟨g3, c3, e3, x3, _⟩ := ownsRow_cell1 hr (j := t) (u := .int .i64 ((G[g])[t] : Nat)) (by simp [natsV, ht])
    rw [e2] at e3
    simp only [Value.slice.injEq, Option.some.injEq, Addr.mk.injEq] at e3
    obtain ⟨⟨rfl, _⟩, _, _⟩ := e3
    exact x3
  have HGC := Lib.hid hgc; have HGE := Lib.hid hGe; have HGL := Lib.hid hGl; have HGN := Lib.hid hgn
  obtain ⟨kb, ko, rvf, hcell⟩ : ∃ (kb ko : Nat) (rvf : Nat → Value), ∀ i (h : i < F.length), ka = some ⟨kb, ko, none⟩ ∧ w2.cell? ⟨kb, ko + i, none⟩ = some (rvf i) ∧ RowAt w2 (rvf i) F[i] := by
    obtain ⟨a, c, e, _, h⟩ := hK
    simp only [Value.slice.injEq] at e
    obtain ⟨rfl, _, _⟩ := e
    by_cases h0 : F.length = 0
    · exact ⟨0, 0, fun _ => .bool false, fun i hi => by omega⟩
    · obtain ⟨b, off, _, e2, _⟩ := h 0 (by omega)
      refine ⟨b, off, fun i => (w2.cell? ⟨b, off + i, none⟩).getD (.bool false), fun i hi => ?_⟩
      obtain ⟨b', off', rv, e3, c1, c2⟩ := h i hi
      rw [e2] at e3
      simp only [Option.some.injEq, Addr.mk.injEq] at e3
      obtain ⟨rfl, rfl, _⟩ := e3
      refine ⟨e2, ?_⟩
      have e4 : (w2.cell? ⟨b, off + i, none⟩).getD (.bool false) = rv := by rw [c1]; rfl
      show w2.cell? ⟨b, off + i, none⟩ = some ((w2.cell? ⟨b, off + i, none⟩).getD (.bool false)) ∧ RowAt w2 ((w2.cell? ⟨b, off + i, none⟩).getD (.bool false)) F[i]
      rw [e4]
      exact ⟨c1, c2⟩
  have hless : ∀ w', Below w2.heap.size w2 w' → ∀ i j (hi : i < F.length) (hj : j < F.length), Calls Try.prog 17 #[rvf i, rvf j, .slice none 0 0] w' fun e w'' => e = .returned (.bool (lessR (kf F i) (kf F j) [])) ∧ Below w'.heap.size w' w'' := fun w' hb i j hi hj => by
    have h := foldLess_at ((hcell i hi).2.2.same hb) ((hcell j hj).2.2.same hb) (DescAt.nil w') ((hall _ (List.getElem_mem hj)).trans (hall _ (List.getElem_mem hi)).symm)
    unfold kf
    rw [show F.getD i [] = F[i] from by simp [hi], show F.getD j [] = F[j] from by simp [hj]]
    exact h
  have hkl : ∀ i, i < F.length → (kf F i).length = 2 := fun i hi => by
    unfold kf
    rw [show F.getD i [] = F[i] from by simp [hi]]
    show (List.map keyV _).length = 2
    rw [List.length_map]
    exact hall _ (List.getElem_mem hi)
  have hgi : ∃ gi : Nat → Nat, ∀ i, i < F.length → mget (mOf (flat G G.length)) (i : Int) = some (.int .i64 (gi i : Int)) ∧ ∀ j, j < F.length → mget (mOf (flat G G.length)) (j : Int) = some (.int .i64 (gi j : Int)) → (gi i = gi j ↔ kf F i = kf F j) := by
    have h1 : ∀ i, i < F.length → ∃ g, ∃ hg : g < (firsts (kf F) F.length).length, mget (mOf (flat G G.length)) (i : Int) = some (.int .i64 (g : Int)) ∧ kf F (firsts (kf F) F.length)[g] = kf F i := fun i hi => by
      rw [hGl, hGe]
      exact mOf_flat (f := kf F) hi
    have h2 : ∃ gi : Nat → Nat, ∀ i, i < F.length → ∃ hg : gi i < (firsts (kf F) F.length).length, mget (mOf (flat G G.length)) (i : Int) = some (.int .i64 (gi i : Int)) ∧ kf F (firsts (kf F) F.length)[gi i] = kf F i := by
      refine ⟨fun i => if h : i < F.length then (h1 i h).choose else 0, fun i hi => ?_⟩
      have key : ∀ z, z = (h1 i hi).choose → ∃ hg : z < (firsts (kf F) F.length).length, mget (mOf (flat G G.length)) (i : Int) = some (.int .i64 (z : Int)) ∧ kf F (firsts (kf F) F.length)[z] = kf F i := by
        rintro z rfl
        exact (h1 i hi).choose_spec
      exact key _ (dif_pos hi)
    obtain ⟨gi, hgi⟩ := h2
    refine ⟨gi, fun i hi => ?_⟩
    obtain ⟨hg, e1, e2⟩ := hgi i hi
    refine ⟨e1, fun j hj _ => ?_⟩
    obtain ⟨hg', e3, e4⟩ := hgi j hj
    have := firsts_inj hg hg'
    rw [e2, e4] at this
    exact this.symm
  obtain ⟨gi, hgi⟩ := hgi
  have hgi2 : ∀ i, i < F.length → mget (mOf (flat G G.length)) (i : Int) = some (.int .i64 (gi i : Int)) ∧ ∀ j, j < F.length → (gi i = gi j ↔ kf F i = kf F j) := fun i hi => ⟨(hgi i hi).1, fun j hj => (hgi i hi).2 j hj (hgi j hj).1⟩
  have hmlen : (mOf (flat G G.length)).length = F.length := by
    have h1 := (mOf_all (flat_nodup (f := kf F) (n := F.length) _ (Nat.le_refl _))).1
    rw [flat_len] at h1
    rw [hGl, hGe]; exact h1
  have HLESS := Lib.hid hless; have HKL := Lib.hid hkl; have HGI := Lib.hid hgi2; have HMLEN := Lib.hid hmlen
  have HCELL := Lib.hid (fun i (hi : i < F.length) => (⟨(hcell i hi).1, (hcell i hi).2.1⟩ : ka = some ⟨kb, ko, none⟩ ∧ w2.cell? ⟨kb, ko + i, none⟩ = some (rvf i)))
  have HPM := Lib.hid hpm
  subst hgv
  clear hless hkl hgi hgi2 hmlen hcell hgc hGe hGl hgn hne hG hvl hK hall hm0 hpm hpm2 halm b3 b2 b1 hmm
  go_wp2_with fail
  go_loopw [20] (fun iv wr => ∃ g : Nat, g ≤ G.length ∧ iv = .int .i64 g ∧ MapOf (Value.int .i64) wr pm (mOf (flat G g)) ∧ Upd (fun k => k = pm) w3 wr) (fun iv _ => G.length - (intOf iv).toNat)
  case atStart => exact ⟨0, Nat.zero_le _, rfl, hm3, Upd.refl _ _⟩
  case round =>
    clear hm3
    obtain ⟨g, hg, rfl, hM, hU⟩ := hrel
    by_cases hg2 : g < G.length
    · obtain ⟨gg, ug, uc, hga, n1, n2, x1, x2⟩ := HGC.out g hg2
      subst hga
      have x1' := hU.cell x1 n1
      have hg0 : (0 : Int) ≤ (g : Int) := by omega
      have hg3 : (g : Int) < (G.length : Int) := by omega
      have hgl := HGN.out g hg2
      have hgD : G.getD g [] = G[g] := by simp [hg2]
      obtain ⟨l, hl⟩ : ∃ l, l = G[g] := ⟨_, rfl⟩
      rw [← hl] at x1' x2 hgl hgD
      have HX2 := Lib.hid x2; have HGD := Lib.hid hgD
      clear x1 x2 hl hgD
      go_wp2_with fail
      obtain ⟨wo, hwo⟩ : ∃ wo, wo = wr := ⟨_, rfl⟩
      subst hwo
      go_loopw [27] (fun tv wr => ∃ t : Nat, t ≤ l.length ∧ tv = .int .i64 t ∧ MapOf (Value.int .i64) wr pm (mOf (flat G g ++ (l.take t).map fun i => (i, g))) ∧ Upd (fun k => k = pm) w3 wr) (fun tv _ => l.length - (intOf tv).toNat)
      case atStart => exact ⟨0, Nat.zero_le _, rfl, by simpa using hM, hU⟩
      case round =>
        clear hM hU x1'
        obtain ⟨t, ht, rfl, hM, hU⟩ := hrel
        by_cases ht2 : t < l.length
        · have x2 := hU.cell (HX2.out t ht2) n2
          have ht0 : (0 : Int) ≤ (t : Int) := by omega
          have ht3 : (t : Int) < (l.length : Int) := by omega
          have hst : mOf (flat G g ++ (l.take (t + 1)).map fun i => (i, g)) = mset (mOf (flat G g ++ (l.take t).map fun i => (i, g))) ((l[t] : Nat) : Int) (.int .i64 (g : Int)) := by
            rw [List.take_succ_eq_append_getElem ht2, List.map_append, ← List.append_assoc, List.map_singleton, mOf_snoc]
          obtain ⟨x, hx⟩ : ∃ x, x = l[t] := ⟨_, rfl⟩
          rw [← hx] at x2 hst
          have HST := Lib.hid hst
          clear hst hx
          go_wp2_with (at_mapUpdate; refine wpList_update_map rfl _ _ _ 41 rfl 3 3 key3 Try.underlying41 _ _ rfl hM (x : Int) (.int .i64 (g : Int)) rfl rfl ?_; intro wb hmb hub)
          go_roundw
          case rel => exact ⟨t + 1, by omega, by go_num, by rw [HST.out]; exact hmb, hU.trans hub⟩
          case measure => simp [intOf]; omega
        · have htl : t = l.length := by omega
          subst htl
          have hM2 : MapOf (Value.int .i64) wr pm (mOf (flat G (g + 1))) := by
            rw [flat_succ, HGD.out]
            rw [List.take_length] at hM
            exact hM
          have HM2 := Lib.hid hM2
          clear hM2 hM
          go_wp2_with fail
          go_roundw
          case rel => exact ⟨g + 1, by omega, by go_num, HM2.out, hU⟩
          case measure => simp [intOf]; omega
    · have hgl : g = G.length := by omega
      subst hgl
      have hA : Below w2.heap.size w2 wr := hb23.trans (hU.below hb23.size (fun b hb e => by have := HPM.out; omega))
      obtain ⟨M, hMe⟩ : ∃ M, M = mOf (flat G G.length) := ⟨_, rfl⟩
      rw [← hMe] at hM HGI HMLEN
      have hg3 : ¬ (G.length : Int) < (G.length : Int) := by omega
      clear hMe hU hb23
      go_wp2_with fail
      obtain ⟨wo, hwo⟩ : ∃ wo, wo = wr := ⟨_, rfl⟩
      subst hwo
      go_loopw [38] (fun iv wr => ∃ i : Nat, i ≤ F.length ∧ iv = .int .i64 i ∧ Below w2.heap.size w2 wr ∧ MapOf (Value.int .i64) wr pm M) (fun iv _ => F.length - (intOf iv).toNat)
      case atStart => exact ⟨0, Nat.zero_le _, rfl, hA, hM⟩
      case round =>
        clear hA hM
        obtain ⟨i, hi, rfl, hA, hM⟩ := hrel
        by_cases hi2 : i < F.length
        · have hi0 : (0 : Int) ≤ (i : Int) := by omega
          have hi3 : (i : Int) < (F.length : Int) := by omega
          go_wp2_with fail
          obtain ⟨wo, hwo⟩ : ∃ wo, wo = wr := ⟨_, rfl⟩
          subst hwo
          go_loopw [43] (fun jv wr => ∃ j : Nat, j ≤ F.length ∧ jv = .int .i64 j ∧ Below w2.heap.size w2 wr ∧ MapOf (Value.int .i64) wr pm M) (fun jv _ => F.length - (intOf jv).toNat)
          case atStart => exact ⟨0, Nat.zero_le _, rfl, hA, hM⟩
          case round =>
            clear hA hM
            obtain ⟨j, hj, rfl, hA, hM⟩ := hrel
            by_cases hj2 : j < F.length
            · obtain ⟨hka, ci0⟩ := HCELL.out i hi2
              obtain ⟨_, cj0⟩ := HCELL.out j hj2
              subst hka
              have ci := keeper hA ci0
              have cj := keeper hA cj0
              have hj0 : (0 : Int) ≤ (j : Int) := by omega
              have hj3 : (j : Int) < (F.length : Int) := by omega
              have hab := fun w' hb => HLESS.out w' hb i j hi2 hj2
              have hba := fun w' hb => HLESS.out w' hb j i hj2 hi2
              have hal := alikeR ((HKL.out i hi2).trans (HKL.out j hj2).symm)
              have heq := (HGI.out i hi2).2 j hj2
              obtain ⟨x, hx⟩ : ∃ x, x = lessR (kf F i) (kf F j) [] := ⟨_, rfl⟩
              obtain ⟨y, hy⟩ : ∃ y, y = lessR (kf F j) (kf F i) [] := ⟨_, rfl⟩
              rw [← hx] at hab hal
              rw [← hy] at hba hal
              have HAB := Lib.hid hab; have HBA := Lib.hid hba; have HAL := Lib.hid hal; have HEQ := Lib.hid heq; have HMAP := Lib.hid hM
              have hd0 : Below wr.heap.size wr wr.drew := below_drewN (n := 1)
              have hA0 := below_then hA hd0
              clear hab hba hal heq hx hy ci0 cj0 hM
              cases x with
              | true =>
                have hne : ¬ kf F i = kf F j := fun e => by have := HAL.out; simp [e] at this
                have HNE := Lib.hid hne
                clear hne
                go_wp2_with fail
                refine wp_region_noPanic ?_
                refine wp_region_held_drew (S := fun z => z.cell? ⟨kb, ko + i, none⟩ = some (rvf i) ∧ z.cell? ⟨kb, ko + j, none⟩ = some (rvf j)) (by kernel_rfl) (⟨keeper hd0 ci, keeper hd0 cj⟩) (fun hH => ?_)
                refine wpAnyH_take (i := 0) (oi := _) (v := ?_) rfl (by kernel_rfl) (by kernel_rfl) (by kernel_rfl) (fun _ _ _ h => h) (Or.inl ⟨by rfl, ?_⟩) hH ?_
                rotate_left 1
                · intro w0 _; go_simp; try with_reducible rfl
                try simp only [Act.put, List.getElem_toArray, List.getElem_cons_zero, List.setIfInBounds_toArray, List.set_cons_zero, List.set_cons_succ]
                refine wpAnyH_take (i := 1) (oi := _) (v := ?_) rfl (by kernel_rfl) (by kernel_rfl) (by kernel_rfl) (fun _ _ _ h => h) (Or.inl ⟨by rfl, ?_⟩) hH ?_
                rotate_left 1
                · intro w0 _; go_simp; try with_reducible rfl
                try simp only [Act.put, List.getElem_toArray, List.getElem_cons_zero, List.getElem_cons_succ, List.setIfInBounds_toArray, List.set_cons_zero, List.set_cons_succ]
                refine wpAnyH_take (i := 2) (oi := _) (v := ?_) rfl (by kernel_rfl) (by kernel_rfl) (by kernel_rfl) (fun _ _ _ h => h) (Or.inl ⟨by rfl, ?_⟩) hH ?_
                rotate_left 1
                · intro w0 _; go_simp; try with_reducible rfl
                try simp only [Act.put, List.getElem_toArray, List.getElem_cons_zero, List.getElem_cons_succ, List.setIfInBounds_toArray, List.set_cons_zero, List.set_cons_succ]
                refine wpAnyH_take (i := 3) (oi := _) (v := ?_) rfl (by kernel_rfl) (by kernel_rfl) (by kernel_rfl) (fun _ _ _ h => h) (Or.inl ⟨by rfl, ?_⟩) hH ?_
                rotate_left 1
                · intro w0 hSw; (try dsimp only at hSw); go_simp; try with_reducible rfl
                try simp only [Act.put, List.getElem_toArray, List.getElem_cons_zero, List.getElem_cons_succ, List.setIfInBounds_toArray, List.set_cons_zero, List.set_cons_succ]
                refine wpAnyH_take (i := 4) (oi := _) (v := ?_) rfl (by kernel_rfl) (by kernel_rfl) (by kernel_rfl) (fun _ _ _ h => h) (Or.inl ⟨by rfl, ?_⟩) hH ?_
                rotate_left 1
                · intro w0 _; go_simp; try with_reducible rfl
                try simp only [Act.put, List.getElem_toArray, List.getElem_cons_zero, List.getElem_cons_succ, List.setIfInBounds_toArray, List.set_cons_zero, List.set_cons_succ]
                refine wpAnyH_take (i := 5) (oi := _) (v := ?_) rfl (by kernel_rfl) (by kernel_rfl) (by kernel_rfl) (fun _ _ _ h => h) (Or.inl ⟨by rfl, ?_⟩) hH ?_
                rotate_left 1
                · intro w0 _; go_simp; try with_reducible rfl
                try simp only [Act.put, List.getElem_toArray, List.getElem_cons_zero, List.getElem_cons_succ, List.setIfInBounds_toArray, List.set_cons_zero, List.set_cons_succ]
                refine wpAnyH_take (i := 6) (oi := _) (v := ?_) rfl (by kernel_rfl) (by kernel_rfl) (by kernel_rfl) (fun _ _ _ h => h) (Or.inl ⟨by rfl, ?_⟩) hH ?_
                rotate_left 1
                · intro w0 _; go_simp; try with_reducible rfl
                try simp only [Act.put, List.getElem_toArray, List.getElem_cons_zero, List.getElem_cons_succ, List.setIfInBounds_toArray, List.set_cons_zero, List.set_cons_succ]
                refine wpAnyH_take (i := 7) (oi := _) (v := ?_) rfl (by kernel_rfl) (by kernel_rfl) (by kernel_rfl) (fun _ _ _ h => h) (Or.inl ⟨by rfl, ?_⟩) hH ?_
                rotate_left 1
                · intro w0 hSw; (try dsimp only at hSw); go_simp; try with_reducible rfl
                try simp only [Act.put, List.getElem_toArray, List.getElem_cons_zero, List.getElem_cons_succ, List.setIfInBounds_toArray, List.set_cons_zero, List.set_cons_succ]
                refine wpAnyH_ready (rs := [8]) (by kernel_rfl) (by simp) ?_
                refine AllReadyH.cons rfl (fun K hK => ?_) AllReadyH.nil
                go_simp
                go_at_call 17
                (with_reducible refine (HAB.out _ hA0).mono ?_)
                rintro e w5 ⟨rfl, hk5⟩
                have hd1 := below_then hd0 hk5
                refine hK.out _ _ ?_ (fun hH2 => ?_)
                · exact ⟨keeper hd1 ci, keeper hd1 cj⟩
                clear hK K hH
                have hH := hH2
                clear hH2
                try simp only [Act.put, List.getElem_toArray, List.getElem_cons_zero, List.getElem_cons_succ, List.setIfInBounds_toArray, List.set_cons_zero, List.set_cons_succ]
                refine wpAnyH_take (i := 9) (oi := _) (v := ?_) rfl (by kernel_rfl) (by kernel_rfl) (by kernel_rfl) (fun _ _ _ h => h) (Or.inl ⟨by rfl, ?_⟩) hH ?_
                rotate_left 1
                · intro w0 _; go_simp; try with_reducible rfl
                try simp only [Act.put, List.getElem_toArray, List.getElem_cons_zero, List.getElem_cons_succ, List.setIfInBounds_toArray, List.set_cons_zero, List.set_cons_succ]
                refine wpAnyH_take (i := 10) (oi := _) (v := ?_) rfl (by kernel_rfl) (by kernel_rfl) (by kernel_rfl) (fun _ _ _ h => h) (Or.inl ⟨by rfl, ?_⟩) hH ?_
                rotate_left 1
                · intro w0 _; go_simp; try with_reducible rfl
                try simp only [Act.put, List.getElem_toArray, List.getElem_cons_zero, List.getElem_cons_succ, List.setIfInBounds_toArray, List.set_cons_zero, List.set_cons_succ]
                refine wpAnyH_take (i := 11) (oi := _) (v := undef) rfl (by kernel_rfl) (by kernel_rfl) (by kernel_rfl) (fun _ _ _ h => h) (Or.inr ⟨by rfl, rfl⟩) hH ?_
                try simp only [Act.put, List.getElem_toArray, List.getElem_cons_zero, List.getElem_cons_succ, List.setIfInBounds_toArray, List.set_cons_zero, List.set_cons_succ]
                refine wpAnyH_take (i := 12) (oi := _) (v := undef) rfl (by kernel_rfl) (by kernel_rfl) (by kernel_rfl) (fun _ _ _ h => h) (Or.inr ⟨by rfl, rfl⟩) hH ?_
                try simp only [Act.put, List.getElem_toArray, List.getElem_cons_zero, List.getElem_cons_succ, List.setIfInBounds_toArray, List.set_cons_zero, List.set_cons_succ]
                refine wpAnyH_take (i := 13) (oi := _) (v := undef) rfl (by kernel_rfl) (by kernel_rfl) (by kernel_rfl) (fun _ _ _ h => h) (Or.inr ⟨by rfl, rfl⟩) hH ?_
                try simp only [Act.put, List.getElem_toArray, List.getElem_cons_zero, List.getElem_cons_succ, List.setIfInBounds_toArray, List.set_cons_zero, List.set_cons_succ]
                refine wpAnyH_take (i := 14) (oi := _) (v := undef) rfl (by kernel_rfl) (by kernel_rfl) (by kernel_rfl) (fun _ _ _ h => h) (Or.inr ⟨by rfl, rfl⟩) hH ?_
                try simp only [Act.put, List.getElem_toArray, List.getElem_cons_zero, List.getElem_cons_succ, List.setIfInBounds_toArray, List.set_cons_zero, List.set_cons_succ]
                refine wpAnyH_take (i := 15) (oi := _) (v := undef) rfl (by kernel_rfl) (by kernel_rfl) (by kernel_rfl) (fun _ _ _ h => h) (Or.inr ⟨by rfl, rfl⟩) hH ?_
                try simp only [Act.put, List.getElem_toArray, List.getElem_cons_zero, List.getElem_cons_succ, List.setIfInBounds_toArray, List.set_cons_zero, List.set_cons_succ]
                refine wpAnyH_take (i := 16) (oi := _) (v := undef) rfl (by kernel_rfl) (by kernel_rfl) (by kernel_rfl) (fun _ _ _ h => h) (Or.inr ⟨by rfl, rfl⟩) hH ?_
                try simp only [Act.put, List.getElem_toArray, List.getElem_cons_zero, List.getElem_cons_succ, List.setIfInBounds_toArray, List.set_cons_zero, List.set_cons_succ]
                refine wpAnyH_take (i := 17) (oi := _) (v := undef) rfl (by kernel_rfl) (by kernel_rfl) (by kernel_rfl) (fun _ _ _ h => h) (Or.inr ⟨by rfl, rfl⟩) hH ?_
                try simp only [Act.put, List.getElem_toArray, List.getElem_cons_zero, List.getElem_cons_succ, List.setIfInBounds_toArray, List.set_cons_zero, List.set_cons_succ]
                refine wpAnyH_take (i := 18) (oi := _) (v := undef) rfl (by kernel_rfl) (by kernel_rfl) (by kernel_rfl) (fun _ _ _ h => h) (Or.inr ⟨by rfl, rfl⟩) hH ?_
                try simp only [Act.put, List.getElem_toArray, List.getElem_cons_zero, List.getElem_cons_succ, List.setIfInBounds_toArray, List.set_cons_zero, List.set_cons_succ]
                refine wpAnyH_take (i := 19) (oi := _) (v := undef) rfl (by kernel_rfl) (by kernel_rfl) (by kernel_rfl) (fun _ _ _ h => h) (Or.inr ⟨by rfl, rfl⟩) hH ?_
                try simp only [Act.put, List.getElem_toArray, List.getElem_cons_zero, List.getElem_cons_succ, List.setIfInBounds_toArray, List.set_cons_zero, List.set_cons_succ]
                refine wpAnyH_take (i := 20) (oi := _) (v := undef) rfl (by kernel_rfl) (by kernel_rfl) (by kernel_rfl) (fun _ _ _ h => h) (Or.inr ⟨by rfl, rfl⟩) hH ?_
                try simp only [Act.put, List.getElem_toArray, List.getElem_cons_zero, List.getElem_cons_succ, List.setIfInBounds_toArray, List.set_cons_zero, List.set_cons_succ]
                refine wpAnyH_take (i := 21) (oi := _) (v := ?_) rfl (by kernel_rfl) (by kernel_rfl) (by kernel_rfl) (fun _ _ _ h => h) (Or.inl ⟨by rfl, ?_⟩) hH ?_
                rotate_left 1
                · intro w0 _; go_simp; try with_reducible rfl
                try simp only [Act.put, List.getElem_toArray, List.getElem_cons_zero, List.getElem_cons_succ, List.setIfInBounds_toArray, List.set_cons_zero, List.set_cons_succ]
                refine wpAnyH_take (i := 22) (oi := _) (v := ?_) rfl (by kernel_rfl) (by kernel_rfl) (by kernel_rfl) (fun _ _ _ h => h) (Or.inl ⟨by rfl, ?_⟩) hH ?_
                rotate_left 1
                · intro w0 _; go_simp; try with_reducible rfl
                try simp only [Act.put, List.getElem_toArray, List.getElem_cons_zero, List.getElem_cons_succ, List.setIfInBounds_toArray, List.set_cons_zero, List.set_cons_succ]
                refine wpAnyH_done (by kernel_rfl) ?_ _
                refine NoPanic.normal ?_
                clear hH
                have hA5 := below_then hA hd1
                have hm5 := (HMAP.out).same hd1
                have hl1 : (Instr.lookup 41 (.map (some pm)) (.int .i64 (i : Int)) false).run Try.prog w5 = .ok (.int .i64 (gi i : Int)) w5 := by
                  have h := run_lookup_map hm5 key3 Try.underlying41 (zero3 w5) (i : Int) false
                  rw [(HGI.out i hi2).1] at h
                  exact h
                have hl2 : (Instr.lookup 41 (.map (some pm)) (.int .i64 (j : Int)) false).run Try.prog w5 = .ok (.int .i64 (gi j : Int)) w5 := by
                  have h := run_lookup_map hm5 key3 Try.underlying41 (zero3 w5) (j : Int) false
                  rw [(HGI.out j hj2).1] at h
                  exact h
                obtain ⟨ga, hga⟩ : ∃ z, z = gi i := ⟨_, rfl⟩
                obtain ⟨gb, hgb⟩ : ∃ z, z = gi j := ⟨_, rfl⟩
                rw [← hga] at hl1 HEQ
                rw [← hgb] at hl2 HEQ
                clear hga hgb ci cj
                have hne2 : ((ga : Int) == (gb : Int)) = false := by rw [beq_eq_false_iff_ne]; intro e; exact HNE.out (HEQ.out.1 (by omega))
                go_wp2_with fail
                go_roundw
                case rel => exact ⟨j + 1, by omega, by go_num, hA5, hm5⟩
                case measure => simp [intOf]; omega
              | false =>
                go_wp2_with fail
                go_region_held3 (fun z => z.cell? ⟨kb, ko + i, none⟩ = some (rvf i) ∧ z.cell? ⟨kb, ko + j, none⟩ = some (rvf j))
                  (first | (with_reducible exact ⟨keeper hd2 ci, keeper hd2 cj⟩) | (with_reducible exact ⟨keeper hd1 ci, keeper hd1 cj⟩) | (with_reducible exact ⟨keeper hd0 ci, keeper hd0 cj⟩))
                  (first | (have _h := hd1; go_at_call 17; (with_reducible refine (HBA.out _ (below_then hA hd1)).mono ?_); rintro e w6 ⟨rfl, hk6⟩; have hd2 := below_then hd1 hk6) | (go_at_call 17; (with_reducible refine (HAB.out _ hA0).mono ?_); rintro e w5 ⟨rfl, hk5⟩; have hd1 := below_then hd0 hk5))
                cases y with
                | true =>
                  have hne : ¬ kf F i = kf F j := fun e => by have := HAL.out; simp [e] at this
                  have HNE := Lib.hid hne
                  clear hne
                  have hA5 := below_then hA hd2
                  have hm5 := (HMAP.out).same hd2
                  have hl1 : (Instr.lookup 41 (.map (some pm)) (.int .i64 (i : Int)) false).run Try.prog w6 = .ok (.int .i64 (gi i : Int)) w6 := by
                    have h := run_lookup_map hm5 key3 Try.underlying41 (zero3 w6) (i : Int) false
                    rw [(HGI.out i hi2).1] at h
                    exact h
                  have hl2 : (Instr.lookup 41 (.map (some pm)) (.int .i64 (j : Int)) false).run Try.prog w6 = .ok (.int .i64 (gi j : Int)) w6 := by
                    have h := run_lookup_map hm5 key3 Try.underlying41 (zero3 w6) (j : Int) false
                    rw [(HGI.out j hj2).1] at h
                    exact h
                  obtain ⟨ga, hga⟩ : ∃ z, z = gi i := ⟨_, rfl⟩
                  obtain ⟨gb, hgb⟩ : ∃ z, z = gi j := ⟨_, rfl⟩
                  rw [← hga] at hl1 HEQ
                  rw [← hgb] at hl2 HEQ
                  clear hga hgb ci cj
                  have hne2 : ((ga : Int) == (gb : Int)) = false := by rw [beq_eq_false_iff_ne]; intro e; exact HNE.out (HEQ.out.1 (by omega))
                  go_wp2_with fail
                  go_roundw
                  case rel => exact ⟨j + 1, by omega, by go_num, hA5, hm5⟩
                  case measure => simp [intOf]; omega
                | false =>
                  have hee : kf F i = kf F j := by have := HAL.out; simpa using this
                  have HEE := Lib.hid hee
                  clear hee
                  have hA5 := below_then hA hd2
                  have hm5 := (HMAP.out).same hd2
                  have hl1 : (Instr.lookup 41 (.map (some pm)) (.int .i64 (i : Int)) false).run Try.prog w6 = .ok (.int .i64 (gi i : Int)) w6 := by
                    have h := run_lookup_map hm5 key3 Try.underlying41 (zero3 w6) (i : Int) false
                    rw [(HGI.out i hi2).1] at h
                    exact h
                  have hl2 : (Instr.lookup 41 (.map (some pm)) (.int .i64 (j : Int)) false).run Try.prog w6 = .ok (.int .i64 (gi j : Int)) w6 := by
                    have h := run_lookup_map hm5 key3 Try.underlying41 (zero3 w6) (j : Int) false
                    rw [(HGI.out j hj2).1] at h
                    exact h
                  obtain ⟨ga, hga⟩ : ∃ z, z = gi i := ⟨_, rfl⟩
                  obtain ⟨gb, hgb⟩ : ∃ z, z = gi j := ⟨_, rfl⟩
                  rw [← hga] at hl1 HEQ
                  rw [← hgb] at hl2 HEQ
                  clear hga hgb ci cj
                  obtain rfl : ga = gb := HEQ.out.2 HEE.out
                  go_wp2_with fail
                  go_roundw
                  case rel => exact ⟨j + 1, by omega, by go_num, hA5, hm5⟩
                  case measure => simp [intOf]; omega
            · have hjl : j = F.length := by omega
              subst hjl
              go_wp2_with fail
              go_roundw
              case rel => exact ⟨i + 1, by omega, by go_num, hA, hM⟩
              case measure => simp [intOf]; omega
        · have hil : i = F.length := by omega
          subst hil
          have hln := fun ty => run_len_map hM Try.underlying41 ty
          rw [HMLEN.out] at hln
          go_wp2_with fail
          go_ret
          exact ⟨rfl, below_then hB2 hA⟩
end Go.Proofs.Ytifcdfilglbdgaa
