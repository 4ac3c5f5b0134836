/-
  FoldOnce, the walk: what is sorted, or put together, is each row, once.
-/
import Derived.Test.YtifcdfilglbdgaaStab
import Derived.Test.YtifcdfilglbdgaaKeys
import Derived.Test.YtifcdfilglbdgaaCnt
namespace Go.Proofs.Ytifcdfilglbdgaa
open Go.RowKit

theorem fstI_append (a b : List (Nat × Nat)) : fstI (a ++ b) = fstI a ++ fstI b := List.map_append
theorem fstI_grp (l : List Nat) (g : Nat) : fstI (l.map fun i => (i, g)) = l.map fun (i : Nat) => (i : Int) := by unfold fstI; rw [List.map_map]; rfl

theorem grp_step {α : Type} [DecidableEq α] {f : Nat → α} {n g t : Nat} {l : List Nat} (hg : g < (firsts f n).length) (hl : (grps f n).getD g [] = l) (ht : t < l.length) : ((l[t] : Nat) : Int) ∉ fstI (flat (grps f n) g) ++ (l.take t).map fun (i : Nat) => (i : Int) := by
  have h := flat_nodup (f := f) (n := n) (g + 1) (by omega)
  rw [flat_succ, hl, List.map_append, List.map_map, show ((fun x : Nat × Nat => x.1) ∘ fun i => (i, g)) = id from rfl, List.map_id] at h
  have e : l = l.take t ++ l[t] :: l.drop (t + 1) := by rw [← List.drop_eq_getElem_cons ht, List.take_append_drop]
  obtain ⟨x, hx⟩ : ∃ x, x = l[t] := ⟨_, rfl⟩
  rw [← hx] at e ⊢
  obtain ⟨a, ha⟩ : ∃ a, a = l.take t := ⟨_, rfl⟩
  obtain ⟨b, hb⟩ : ∃ b, b = l.drop (t + 1) := ⟨_, rfl⟩
  rw [← ha, ← hb] at e
  rw [← ha]
  subst e
  rw [List.nodup_append] at h
  obtain ⟨_, h2, h3⟩ := h
  rw [List.nodup_append] at h2
  intro hm
  rcases List.mem_append.1 hm with hm | hm
  · obtain ⟨y, hy, e⟩ := List.mem_map.1 hm
    exact h3 y.1 (List.mem_map.2 ⟨y, hy, rfl⟩) x (by simp) (by omega)
  · obtain ⟨y, hy, e⟩ := List.mem_map.1 hm
    exact h2.2.2 y hy x (by simp) (by omega)

set_option maxHeartbeats 8000000 in
set_option maxRecDepth 100000 in
theorem foldOnce_any {w : World} {lv dv : Value} {L : List (List V)} {d : List Bool} (hL : KeysIn w lv L) (hd : DescAt w dv d) {most : Int} :
    Calls Try.prog 8 #[lv, dv, .int .i64 most] w fun e w' => e = .returned (.bool true) ∧ Below w.heap.size w w' := by
  obtain ⟨la, lc, hlv⟩ : ∃ a c, lv = .slice a L.length c := by obtain ⟨a, c, e, _⟩ := hL; exact ⟨a, c, e⟩
  obtain ⟨da, dc, hdv⟩ : ∃ a c, dv = .slice a d.length c := by obtain ⟨a, c, e, _⟩ := hd; exact ⟨a, c, e⟩
  have HL := Lib.hid hL; have HD := Lib.hid hd
  clear hL hd
  have hfew : ∀ w', Below w.heap.size w w' → Calls Try.prog 10 #[lv, .int .i64 2] w' _ := fun w' hb => few_at (HL.out.same hb) (by decide : 2 ≤ 3)
  have HFEW := Lib.hid hfew
  clear hfew
  subst hlv hdv
  have hmm := @run_makeMap Try.prog
  go_enter Try.func8, Try.ntmps8
  go_wp2_with fail
  refine (awake_at w).mono ?_
  rintro e w1 ⟨rfl, b1⟩
  go_wp2_with fail
  refine (HFEW.out w1 b1).mono ?_
  rintro e w2 ⟨kv, rfl, hK, hform, b2⟩
  have hB2 := below_then b1 b2
  have hall := fewR_all 2 L
  have hlen := fewR_len 2 L
  obtain ⟨F, hF⟩ : ∃ F, F = fewR 2 L := ⟨_, rfl⟩
  rw [← hF] at hK hform hall hlen
  clear hF HFEW hform
  have hm0 := MapOf.made w2 (Value.int .i64)
  have halm : Below w2.heap.size w2 (w2.alloc (.map #[] 0)) := below_alloc _ _
  have hK3 := hK.same halm
  have hso := sort_at hK3 (HD.out.same (below_then hB2 halm)) hall (.inr (stableOk hlen))
  have hgr := fun w' hb => groups_at (hK.same (w' := w') hb)
  have HGR := Lib.hid hgr; have HSO := Lib.hid hso
  clear hgr hso hK3
  obtain ⟨ka, kc, hkv⟩ : ∃ a c, kv = .slice a F.length c := by obtain ⟨a, c, e, _⟩ := hK; exact ⟨a, c, e⟩
  subst hkv
  go_wp2_with fail
  refine HSO.out.mono ?_
  rintro e w3 ⟨sv, C, rfl, hp, hsrt, hi, b3⟩
  clear HSO
  obtain ⟨pm, hpm⟩ : ∃ pm, pm = w2.heap.size := ⟨_, rfl⟩
  have hm3 := hm0.same b3
  rw [← hpm] at hm3
  rw [← hpm]
  have hb23 : Below w2.heap.size w2 w3 := below_then halm b3
  have hpm2 : (w2.alloc (.map #[] 0)).heap.size = pm + 1 := by rw [hpm]; simp
  rw [hpm2] at b3
  have hcl : C.length = F.length := by rw [hp.length_eq, idxs_len]
  obtain ⟨sa, sc, hsv, hC1000, hcells⟩ := hi
  have hne0 : ∀ i (h : i < C.length), ∃ b off, sa = some ⟨b, off, none⟩ ∧ b ≠ pm ∧ w3.cell? ⟨b, off + i, none⟩ = some (.int .i64 C[i]) := fun i h => by
    obtain ⟨b, off, e1, e2⟩ := hcells i h
    refine ⟨b, off, e1, fun e => ?_, e2⟩
    subst e
    obtain ⟨es, clock, hh, _⟩ := hm3
    unfold World.cell? at e2
    simp [hh] at e2
  have HP := Lib.hid hp; have HCELLS := Lib.hid hne0; have HCL := Lib.hid hcl
  have HB3 := Lib.hid b3; have HPM := Lib.hid hpm; have HPM2 := Lib.hid hpm2
  subst hsv
  clear hp hcells hne0 hsrt hpm hpm2 b3 hm0 halm hmm b2 b1 hK
  go_wp2_with fail
  obtain ⟨wo, hwo⟩ : ∃ wo, wo = w3 := ⟨_, rfl⟩
  subst hwo
  go_loopw [26] (fun iv wr => ∃ t : Nat, t ≤ C.length ∧ iv = .int .i64 t ∧ ∃ m, MapOf (Value.int .i64) wr pm m ∧ Hid (CntOf m (C.take t) ∧ m.length = t) ∧ Upd (fun k => k = pm) wo wr) (fun iv _ => C.length - (intOf iv).toNat)
  case atStart => exact ⟨0, Nat.zero_le _, rfl, [], hm3, Lib.hid ⟨CntOf.nil, rfl⟩, Upd.refl _ _⟩
  case round =>
    clear hm3
    obtain ⟨t, ht, rfl, m, hM, HM, hU⟩ := hrel
    by_cases ht2 : t < C.length
    · obtain ⟨b, off, e1, e2, e3⟩ := HCELLS.out t ht2
      subst e1
      have x2 := hU.cell e3 e2
      have ht0 : (0 : Int) ≤ (t : Int) := by omega
      have ht3 : (t : Int) < (C.length : Int) := by omega
      have htk : C.take (t + 1) = C.take t ++ [C[t]] := List.take_succ_eq_append_getElem ht2
      have hnd : C[t] ∉ C.take t := fun hx => by
        have hn : C.Nodup := HP.out.nodup_iff.2 (idxs_nodup _)
        obtain ⟨k, hk, e⟩ := List.mem_iff_getElem.1 hx
        rw [List.getElem_take] at e
        have := (List.getElem_inj hn).1 e
        simp at hk
        omega
      obtain ⟨x, hx⟩ : ∃ x, x = C[t] := ⟨_, rfl⟩
      rw [← hx] at x2 htk hnd
      have hlk : (Instr.lookup 41 (.map (some pm)) (.int .i64 x) false).run Try.prog wr = .ok (.int .i64 0) wr := by
        have h := run_lookup_map hM key3 Try.underlying41 (zero3 wr) x false
        have hv := HM.out.1.val x
        rw [List.count_eq_zero_of_not_mem hnd] at hv
        rw [hv] at h
        exact h
      have hnew : CntOf (mset m x (.int .i64 1)) (C.take (t + 1)) ∧ (mset m x (.int .i64 1)).length = t + 1 := by
        refine ⟨?_, ?_⟩
        · have h := HM.out.1.add x
          rw [List.count_eq_zero_of_not_mem hnd] at h
          rw [htk]; exact h
        · rw [HM.out.1.len_new hnd, HM.out.2]
      have HN := Lib.hid hnew; have HX := Lib.hid hx
      clear hnew hnd htk e3 e2 hx
      go_wp2_with (at_mapUpdate; refine wpList_update_map rfl _ _ _ 41 rfl 3 3 key3 Try.underlying41 _ _ rfl hM x (.int .i64 1) rfl rfl ?_; intro wb hmb hub)
      go_roundw
      case rel => exact ⟨t + 1, by omega, by go_num, _, hmb, HN, hU.trans hub⟩
      case measure => simp [intOf]; omega
    · have htl : t = C.length := by omega
      subst htl
      have hA : Below w2.heap.size w2 wr := hb23.trans (hU.below hb23.size (fun b hb e => by have := HPM.out; omega))
      have hgr := HGR.out wr hA
      have hpml : pm < wr.heap.size := hM.lt
      rw [List.take_length] at HM
      have HGRW := Lib.hid hgr
      clear hgr HGR hU hb23
      go_wp2_with fail
      refine HGRW.out.mono ?_
      rintro e w4 ⟨gv, vals, rfl, hG, b4⟩
      have hM4 := hM.same b4
      have hA4 := below_then hA b4
      obtain ⟨G, hGe⟩ : ∃ G, G = grps (kf F) F.length := ⟨_, rfl⟩
      have hGl : G.length = (firsts (kf F) F.length).length := by rw [hGe]; exact grps_len
      have hne : ∀ g (h : g < G.length), 0 < (G[g]).length := fun g h => by
        subst hGe
        obtain ⟨l, hl⟩ := grps_at h
        rw [hl]; simp
      have hgn : ∀ g (h : g < G.length), (G[g]).length ≤ 1000 ∧ ∀ x ∈ G[g], x < F.length := fun g h => by
        subst hGe
        simp only [grps, List.getElem_map, grpOf]
        exact ⟨Nat.le_trans (List.length_filter_le _ _) (by simp; omega), fun x hx => List.mem_range.1 (List.mem_filter.1 hx).1⟩
      have hG40 : G.length ≤ 1000 := by
        rw [hGl]; unfold firsts
        exact Nat.le_trans (List.length_filter_le _ _) (by simp; omega)
      rw [← hGe] at hG
      obtain ⟨ga, gc, hgv⟩ := ownsRow_slice hG.row
      have hvl := hG.len
      have hgc : ∀ g (hg : g < G.length), ∃ gg ug uc, ga = some ⟨gg, 0, none⟩ ∧ gg ≠ pm ∧ ug ≠ pm ∧ w4.cell? ⟨gg, g, none⟩ = some (.slice (some ⟨ug, 0, none⟩) (G[g]).length uc) ∧ ∀ t (ht : t < (G[g]).length), w4.cell? ⟨ug, t, none⟩ = some (.int .i64 ((G[g])[t] : Nat)) := fun g hg => by
        have hu : vals[g]? = some (vals[g]'(by omega)) := List.getElem?_eq_getElem (by omega)
        obtain ⟨gg, c1, e1, x1, _, hb1, _⟩ := ownsRow_cell1 hG.row hu
        rw [hgv] at e1
        simp only [Value.slice.injEq] at e1
        obtain ⟨rfl, _, rfl⟩ := e1
        have hr := hG.each g hg _ hu
        obtain ⟨ug, uc, e2, _, hb2, _⟩ := ownsRow_some hr (hne g hg)
        refine ⟨gg, ug, uc, rfl, by omega, by omega, by rw [x1, e2], fun t ht => ?_⟩
        obtain ⟨g3, c3, e3, x3, _⟩ := ownsRow_cell1 hr (j := t) (u := .int .i64 ((G[g])[t] : Nat)) (by simp [natsV, ht])
        rw [e2] at e3
        simp only [Value.slice.injEq, Option.some.injEq, Addr.mk.injEq] at e3
        obtain ⟨⟨rfl, _⟩, _, _⟩ := e3
        exact x3
      have HGC := Lib.hid hgc; have HGE := Lib.hid hGe; have HGL := Lib.hid hGl; have HGN := Lib.hid hgn
      have HGS := Lib.hid (fun g t (hg : g < G.length) (ht : t < (G[g]).length) => by
        have h := grp_step (f := kf F) (n := F.length) (g := g) (t := t) (l := G[g]) (by omega) (by rw [← hGe]; simp [hg]) ht
        rw [← hGe] at h
        exact h : ∀ g t (hg : g < G.length) (ht : t < (G[g]).length), (((G[g])[t] : Nat) : Int) ∉ fstI (flat G g) ++ ((G[g]).take t).map fun (i : Nat) => (i : Int))
      have HFP := Lib.hid (show (fstI (flat G G.length)).Perm (idxs F.length) by rw [hGl, hGe]; exact flat_perm)
      have HWR := Lib.hid hpml
      subst hgv
      clear hgc hGe hGl hgn hne hG hvl hM hA b4 hpml
      go_wp2_with fail
      obtain ⟨wp, hwp⟩ : ∃ wp, wp = w4 := ⟨_, rfl⟩
      subst hwp
      go_loopw [38] (fun iv wr => ∃ g : Nat, g ≤ G.length ∧ iv = .int .i64 g ∧ ∃ m, MapOf (Value.int .i64) wr pm m ∧ Hid (CntOf m (C ++ fstI (flat G g)) ∧ m.length = C.length) ∧ Upd (fun k => k = pm) wp wr) (fun iv _ => G.length - (intOf iv).toNat)
      case atStart => exact ⟨0, Nat.zero_le _, rfl, _, hM4, Lib.hid ⟨by simpa [flat, fstI] using HM.out.1, HM.out.2⟩, Upd.refl _ _⟩
      case round =>
        clear hM4 HM
        obtain ⟨g, hg, rfl, m, hM, HM, hU⟩ := hrel
        by_cases hg2 : g < G.length
        · obtain ⟨gg, ug, uc, hga, n1, n2, x1, x2⟩ := HGC.out g hg2
          subst hga
          have x1' := hU.cell x1 n1
          have hg0 : (0 : Int) ≤ (g : Int) := by omega
          have hg3 : (g : Int) < (G.length : Int) := by omega
          have hgl := (HGN.out g hg2).1
          have hgx := (HGN.out g hg2).2
          have hgs := fun t ht => HGS.out g t hg2 ht
          have hgD : G.getD g [] = G[g] := by simp [hg2]
          obtain ⟨l, hl⟩ : ∃ l, l = G[g] := ⟨_, rfl⟩
          rw [← hl] at x1' x2 hgl hgD hgx
          have hgs2 : ∀ t (ht : t < l.length), ((l[t] : Nat) : Int) ∉ fstI (flat G g) ++ (l.take t).map fun (i : Nat) => (i : Int) := fun t ht => by
            subst hl; exact hgs t ht
          have HX2 := Lib.hid x2; have HGD := Lib.hid hgD; have HGX := Lib.hid hgx; have HGS2 := Lib.hid hgs2
          clear x1 x2 hl hgD hgx hgs hgs2
          go_wp2_with fail
          obtain ⟨wo2, hwo⟩ : ∃ wo2, wo2 = wr := ⟨_, rfl⟩
          subst hwo
          go_loopw [44] (fun tv wr => ∃ t : Nat, t ≤ l.length ∧ tv = .int .i64 t ∧ ∃ m, MapOf (Value.int .i64) wr pm m ∧ Hid (CntOf m (C ++ (fstI (flat G g) ++ (l.take t).map fun (i : Nat) => (i : Int))) ∧ m.length = C.length) ∧ Upd (fun k => k = pm) wp wr) (fun tv _ => l.length - (intOf tv).toNat)
          case atStart => exact ⟨0, Nat.zero_le _, rfl, m, hM, Lib.hid ⟨by simpa using HM.out.1, HM.out.2⟩, hU⟩
          case round =>
            clear hM hU x1' HM
            obtain ⟨t, ht, rfl, m, hM, HM, hU⟩ := hrel
            by_cases ht2 : t < l.length
            · have x2 := hU.cell (HX2.out t ht2) n2
              have ht0 : (0 : Int) ≤ (t : Int) := by omega
              have ht3 : (t : Int) < (l.length : Int) := by omega
              have hst : (l.take (t + 1)).map (fun (i : Nat) => (i : Int)) = (l.take t).map (fun (i : Nat) => (i : Int)) ++ [((l[t] : Nat) : Int)] := by
                rw [List.take_succ_eq_append_getElem ht2, List.map_append, List.map_singleton]
              have hni := HGS2.out t ht2
              have hlx := HGX.out l[t] (List.getElem_mem ht2)
              obtain ⟨x, hx⟩ : ∃ x, x = l[t] := ⟨_, rfl⟩
              rw [← hx] at x2 hst hni hlx
              have hcnt : (C ++ (fstI (flat G g) ++ (l.take t).map fun (i : Nat) => (i : Int))).count (x : Int) = 1 := by
                rw [List.count_append, List.count_eq_zero_of_not_mem hni, count_perm HP.out (by omega)]
              have hin : (x : Int) ∈ C ++ (fstI (flat G g) ++ (l.take t).map fun (i : Nat) => (i : Int)) := List.mem_append.2 (.inl (HP.out.mem_iff.2 (mem_idxs.2 (by omega))))
              have hlk : (Instr.lookup 41 (.map (some pm)) (.int .i64 (x : Int)) false).run Try.prog wr = .ok (.int .i64 1) wr := by
                have h := run_lookup_map hM key3 Try.underlying41 (zero3 wr) (x : Int) false
                have hv := HM.out.1.val (x : Int)
                rw [hcnt] at hv
                rw [hv] at h
                exact h
              have hnew : CntOf (mset m (x : Int) (.int .i64 2)) (C ++ (fstI (flat G g) ++ (l.take (t + 1)).map fun (i : Nat) => (i : Int))) ∧ (mset m (x : Int) (.int .i64 2)).length = C.length := by
                refine ⟨?_, ?_⟩
                · have h := HM.out.1.add (x : Int)
                  rw [hcnt] at h
                  rw [hst, ← List.append_assoc, ← List.append_assoc]
                  rw [← List.append_assoc] at h
                  exact h
                · rw [HM.out.1.len_old hin, HM.out.2]
              have HN := Lib.hid hnew
              clear hnew hni hst hcnt hin hx hlx
              go_wp2_with (at_mapUpdate; refine wpList_update_map rfl _ _ _ 41 rfl 3 3 key3 Try.underlying41 _ _ rfl hM (x : Int) (.int .i64 2) rfl rfl ?_; intro wb hmb hub)
              go_roundw
              case rel => exact ⟨t + 1, by omega, by go_num, _, hmb, HN, hU.trans hub⟩
              case measure => simp [intOf]; omega
            · have htl : t = l.length := by omega
              subst htl
              have hM2 : CntOf m (C ++ fstI (flat G (g + 1))) ∧ m.length = C.length := by
                rw [flat_succ, HGD.out, fstI_append, fstI_grp]
                have := HM.out
                rw [List.take_length] at this
                exact this
              have HM2 := Lib.hid hM2
              clear hM2 HM
              go_wp2_with fail
              go_roundw
              case rel => exact ⟨g + 1, by omega, by go_num, m, hM, HM2, hU⟩
              case measure => simp [intOf]; omega
        · have hgl : g = G.length := by omega
          subst hgl
          have hA5 : Below w2.heap.size w2 wr := hA4.trans (hU.below hA4.size (fun b hb e => by have := HPM.out; omega))
          have hg3 : ¬ (G.length : Int) < (G.length : Int) := by omega
          have hval : ∀ i : Nat, i < F.length → (mget m (i : Int)).getD (.int .i64 0) = .int .i64 2 := fun i hi => by
            rw [HM.out.1.val, List.count_append, count_perm HP.out (by omega), count_perm HFP.out (by omega)]; rfl
          have HV := Lib.hid hval
          have hml : m.length = F.length := HM.out.2.trans HCL.out
          have HML := Lib.hid hml
          clear hval hml HM hU hA4
          go_wp2_with fail
          obtain ⟨wo3, hwo3⟩ : ∃ wo3, wo3 = wr := ⟨_, rfl⟩
          subst hwo3
          go_loopw [56] (fun iv wq => ∃ i : Nat, i ≤ F.length ∧ iv = .int .i64 i ∧ wq = wo3) (fun iv _ => F.length - (intOf iv).toNat)
          case atStart => exact ⟨0, Nat.zero_le _, rfl, rfl⟩
          case round =>
            obtain ⟨i, hi, rfl, rfl⟩ := hrel
            by_cases hi2 : i < F.length
            · have hlk : (Instr.lookup 41 (.map (some pm)) (.int .i64 (i : Int)) false).run Try.prog wr = .ok (.int .i64 2) wr := by
                have h := run_lookup_map hM key3 Try.underlying41 (zero3 wr) (i : Int) false
                rw [HV.out i hi2] at h
                exact h
              have hi3 : (i : Int) < (F.length : Int) := by omega
              go_wp2_with fail
              go_roundw
              case rel => exact ⟨i + 1, by omega, by go_num, trivial⟩
              case measure => simp [intOf]; omega
            · have hil : i = F.length := by omega
              subst hil
              have hln := fun ty => run_len_map hM Try.underlying41 ty
              rw [HML.out] at hln
              have hN0 : (0 : Int) ≤ (F.length : Int) := by omega
              have HL1 := Lib.hid (fun w => limit_at (F.length : Int) most (F.length : Int) (.inr ⟨by omega, rfl⟩) w)
              have HL2 := Lib.hid (fun w => limit_at (-1) most 0 (.inl ⟨by omega, rfl⟩) w)
              have hii : ¬ (F.length : Int) < (F.length : Int) := by omega
              rcases Int.lt_or_le most 0 with hm0 | hm0
              · have e1 : limI (F.length : Int) most = (F.length : Int) := by unfold limI; rw [if_pos (.inl hm0)]
                have e2 : limI 0 most = 0 := by unfold limI; rw [if_pos (.inl hm0)]
                rw [e1] at HL1
                rw [e2] at HL2
                clear e1 e2
                go_wp2_with fail
                refine (HL1.out _).mono ?_
                rintro e wf ⟨rfl, rfl⟩
                go_wp2_with fail
                refine (HL2.out _).mono ?_
                rintro e wf ⟨rfl, rfl⟩
                go_wp2_with fail
                go_ret
                exact ⟨rfl, below_then hB2 hA5⟩
              · rcases Int.lt_or_le (F.length : Int) most with hm1 | hm1
                · have e1 : limI (F.length : Int) most = (F.length : Int) := by unfold limI; rw [if_pos (.inr hm1)]
                  have e2 : limI 0 most = 0 := by unfold limI; rw [if_pos (.inr (by omega))]
                  have c1 : ¬ most < 0 := by omega
                  have c2 : ¬ (F.length : Int) = most := by omega
                  have c3 : most > (F.length : Int) := hm1
                  have c4 : most ≥ 0 := hm0
                  rw [e1] at HL1
                  rw [e2] at HL2
                  clear e1 e2
                  go_wp2_with fail
                  refine (HL1.out _).mono ?_
                  rintro e wf ⟨rfl, rfl⟩
                  go_wp2_with fail
                  refine (HL2.out _).mono ?_
                  rintro e wf ⟨rfl, rfl⟩
                  go_wp2_with fail
                  go_ret
                  exact ⟨rfl, below_then hB2 hA5⟩
                · have e1 : limI (F.length : Int) most = most := by unfold limI; rw [if_neg (by omega)]
                  have e2 : limI 0 most = 0 := by
                    unfold limI
                    by_cases h : most < 0 ∨ 0 < most
                    · rw [if_pos h]
                    · rw [if_neg h]; omega
                  have c1 : ¬ most < 0 := by omega
                  have c4 : most ≥ 0 := hm0
                  have c5 : most ≤ (F.length : Int) := hm1
                  rw [e1] at HL1
                  rw [e2] at HL2
                  clear e1 e2
                  go_wp2_with fail
                  refine (HL1.out _).mono ?_
                  rintro e wf ⟨rfl, rfl⟩
                  go_wp2_with fail
                  refine (HL2.out _).mono ?_
                  rintro e wf ⟨rfl, rfl⟩
                  go_wp2_with fail
                  go_ret
                  exact ⟨rfl, below_then hB2 hA5⟩
end Go.Proofs.Ytifcdfilglbdgaa
