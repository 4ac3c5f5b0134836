/-
  Prune's second closure: is an index dead, or its table gone? If so its number is put down.
-/
import Derived.Test.YtdohkjpapmkhjaaClos
namespace Go.Proofs.Ytdohkjpapmkhjaa
open Go.RowKit

section
variable {c : Nat → Nat} {k pl B q1 q2 q3 q4 t : Nat} {w w' : World} {f hz tab : Int} {L : List Nat} {e : Ent} {ids tids : List Int} {rv : Value}
set_option maxHeartbeats 4000000 in
set_option maxRecDepth 100000 in
/-- Prune's second closure. -/
theorem clos_ind (hl : LogAt c k w pl f L) (he : EntAt w t e) (ht4 : w.cell? ⟨t, 4, none⟩ = some (.int .u64 tab)) (h1 : w.cell? ⟨q1, 0, none⟩ = some (.pointer (some ⟨pl, 0, none⟩))) (h2 : w.cell? ⟨q2, 0, none⟩ = some (.int .u64 hz)) (h3 : w.cell? ⟨q3, 0, none⟩ = some rv) (hr : Run w rv tids) (hrB : ∀ b, rv.ownBlock = some b → b < B ∧ b ≠ q4) (hg : Gath B w q4 ids) (hn : ids.length ≤ 1000)
    (hq : q1 < B ∧ q2 < B ∧ q3 < B ∧ q4 < B ∧ t < B ∧ q1 ≠ q4 ∧ q2 ≠ q4 ∧ q3 ≠ q4 ∧ t ≠ q4) (hB : B ≤ w.heap.size) (hcS : ∀ b, (b = q4 ∨ B ≤ b) → c b ≠ k) :
    Calls Try.prog 78 #[.pointer (some ⟨t, 0, none⟩), .pointer (some ⟨q1, 0, none⟩), .pointer (some ⟨q2, 0, none⟩), .pointer (some ⟨q3, 0, none⟩), .pointer (some ⟨q4, 0, none⟩)] w fun r w' => r = .returned (.bool (deadB f L e.xmin e.xmax hz || tids.contains tab)) ∧
      Gath B w' q4 (if (deadB f L e.xmin e.xmax hz || tids.contains tab) = true then ids ++ [e.id] else ids) ∧ Upd (fun b => b = q4 ∨ B ≤ b) w w' := by
  obtain ⟨i0, hi, hz0, hz1, hz2⟩ := info_parts Try.info23
  have hd : ∀ w', Upd (fun b => b = q4 ∨ B ≤ b) w w' → Calls Try.prog 76 #[.pointer (some ⟨t, 0, none⟩), .pointer (some ⟨pl, 0, none⟩), .int .u64 hz] w' fun r w'' => r = .returned (.bool (deadB f L e.xmin e.xmax hz)) ∧ Below w'.heap.size w' w'' := fun w' u =>
    edead_at (hl.upd u (fun b hb hs => hcS b hs hb)) (he.upd u (by omega)) hz
  have hcn : ∀ w', Upd (fun b => b = q4 ∨ B ≤ b) w w' → Calls Try.prog 62 #[rv, .int .u64 tab] w' fun r w'' => r = .returned (.bool (tids.contains tab)) ∧ w'' = w' := fun w' u => contains_run (hr.upd u (fun b hb => by have := hrB b hb; omega)) tab
  have h12 : ∀ w', Upd (fun b => b = q4 ∨ B ≤ b) w w' → w'.cell? ⟨q1, 0, none⟩ = some (.pointer (some ⟨pl, 0, none⟩)) ∧ w'.cell? ⟨q2, 0, none⟩ = some (.int .u64 hz) := fun w' u => ⟨u.cell h1 (by simp only; omega), u.cell h2 (by simp only; omega)⟩
  have h124 : ∀ w', Upd (fun b => b = q4 ∨ B ≤ b) w w' → w'.cell? ⟨q1, 0, none⟩ = some (.pointer (some ⟨pl, 0, none⟩)) ∧ w'.cell? ⟨q2, 0, none⟩ = some (.int .u64 hz) ∧ w'.cell? ⟨q3, 0, none⟩ = some rv ∧ w'.cell? ⟨t, 4, none⟩ = some (.int .u64 tab) := fun w' u => ⟨u.cell h1 (by simp only; omega), u.cell h2 (by simp only; omega), u.cell h3 (by simp only; omega), u.cell ht4 (by simp only; omega)⟩
  have hid : ∀ w', Upd (fun b => b = q4 ∨ B ≤ b) w w' → w'.cell? ⟨t, 0, none⟩ = some (.int .u64 e.id) := fun w' u => u.cell he.1 (by simp only; omega)
  obtain ⟨ra, rc, hrv⟩ := ownsRow_slice hr.1
  obtain ⟨eid, heid⟩ : ∃ x, x = e.id := ⟨_, rfl⟩
  obtain ⟨v, hv⟩ : ∃ v, v = deadB f L e.xmin e.xmax hz := ⟨_, rfl⟩
  obtain ⟨x, hx⟩ : ∃ x, x = tids.contains tab := ⟨_, rfl⟩
  rw [← hv] at hd ⊢
  rw [← hx] at hcn ⊢
  rw [← heid] at hid ⊢
  have HD := Lib.hid hd; have H12 := Lib.hid h12; have H124 := Lib.hid h124; have HID := Lib.hid hid; have HQ := Lib.hid hq; have HG := Lib.hid hg; have HCN := Lib.hid hcn
  have u0 : Upd (fun b => b = q4 ∨ B ≤ b) w w.drew := Upd.of_drewN 1
  have HD0 := Lib.hid (hd _ u0)
  have hb0 : Below w.heap.size w w.drew := ⟨rfl, rfl, rfl, Nat.le_refl _, fun _ _ => rfl⟩
  subst hrv
  clear hd h12 h124 hid hl he h1 h2 h3 ht4 hr hrB hg hq hcS hv heid hx hcn
  go_enter Try.func78, Try.ntmps78
  cases v with
  | true =>
    go_wp2_with fail
    refine wp_region_noPanic ?_
    refine wp_region_held_drew (S := fun z => z.cell? ⟨q1, 0, none⟩ = some (.pointer (some ⟨pl, 0, none⟩)) ∧ z.cell? ⟨q2, 0, none⟩ = some (.int .u64 hz)) (by kernel_rfl) (H12.out _ u0) (fun hH => ?_)
    refine wpAnyH_take (i := 0) (oi := _) (v := ?_) rfl (by kernel_rfl) (by kernel_rfl) (by kernel_rfl) (fun _ _ _ h => h) (Or.inl ⟨by rfl, ?_⟩) hH ?_
    rotate_left 1
    · intro w0 _; go_simp; try with_reducible rfl
    try simp only [Act.put, List.getElem_toArray, List.getElem_cons_zero, List.setIfInBounds_toArray, List.set_cons_zero, List.set_cons_succ]
    refine wpAnyH_take (i := 1) (oi := _) (v := ?_) rfl (by kernel_rfl) (by kernel_rfl) (by kernel_rfl) (fun _ _ _ h => h) (Or.inl ⟨by rfl, ?_⟩) hH ?_
    rotate_left 1
    · intro w0 _; go_simp; try with_reducible rfl
    try simp only [Act.put, List.getElem_toArray, List.getElem_cons_zero, List.getElem_cons_succ, List.setIfInBounds_toArray, List.set_cons_zero, List.set_cons_succ]
    refine wpAnyH_take (i := 2) (oi := _) (v := ?_) rfl (by kernel_rfl) (by kernel_rfl) (by kernel_rfl) (fun _ _ _ h => h) (Or.inl ⟨by rfl, ?_⟩) hH ?_
    rotate_left 1
    · intro w0 _; go_simp; try with_reducible rfl
    try simp only [Act.put, List.getElem_toArray, List.getElem_cons_zero, List.getElem_cons_succ, List.setIfInBounds_toArray, List.set_cons_zero, List.set_cons_succ]
    refine wpAnyH_take (i := 3) (oi := _) (v := ?_) rfl (by kernel_rfl) (by kernel_rfl) (by kernel_rfl) (fun _ _ _ h => h) (Or.inl ⟨by rfl, ?_⟩) hH ?_
    rotate_left 1
    · intro w0 hSw; (try dsimp only at hSw); go_simp; try with_reducible rfl
    try simp only [Act.put, List.getElem_toArray, List.getElem_cons_zero, List.getElem_cons_succ, List.setIfInBounds_toArray, List.set_cons_zero, List.set_cons_succ]
    refine wpAnyH_take (i := 4) (oi := _) (v := ?_) rfl (by kernel_rfl) (by kernel_rfl) (by kernel_rfl) (fun _ _ _ h => h) (Or.inl ⟨by rfl, ?_⟩) hH ?_
    rotate_left 1
    · intro w0 hSw; (try dsimp only at hSw); go_simp; try with_reducible rfl
    try simp only [Act.put, List.getElem_toArray, List.getElem_cons_zero, List.getElem_cons_succ, List.setIfInBounds_toArray, List.set_cons_zero, List.set_cons_succ]
    refine wpAnyH_ready (rs := [5]) (by kernel_rfl) (by simp) ?_
    refine AllReadyH.cons rfl (fun K hK => ?_) AllReadyH.nil
    go_simp
    go_at_call 76
    (with_reducible refine HD0.out.mono ?_)
    rintro r w1 ⟨rfl, hk1⟩
    have u1 := u0.trans (Upd.same hk1)
    have hb1 := hb0.trans (hk1.mono hb0.size)
    refine hK.out _ _ ?_ (fun hH2 => ?_)
    · exact H12.out _ u1
    clear hK K hH
    have hH := hH2
    clear hH2
    try simp only [Act.put, List.getElem_toArray, List.getElem_cons_zero, List.getElem_cons_succ, List.setIfInBounds_toArray, List.set_cons_zero, List.set_cons_succ]
    refine wpAnyH_take (i := 6) (oi := _) (v := ?_) rfl (by kernel_rfl) (by kernel_rfl) (by kernel_rfl) (fun _ _ _ h => h) (Or.inl ⟨by rfl, ?_⟩) hH ?_
    rotate_left 1
    · intro w0 _; go_simp; try with_reducible rfl
    try simp only [Act.put, List.getElem_toArray, List.getElem_cons_zero, List.getElem_cons_succ, List.setIfInBounds_toArray, List.set_cons_zero, List.set_cons_succ]
    refine wpAnyH_take (i := 7) (oi := _) (v := undef) rfl (by kernel_rfl) (by kernel_rfl) (by kernel_rfl) (fun _ _ _ h => h) (Or.inr ⟨by rfl, rfl⟩) hH ?_
    try simp only [Act.put, List.getElem_toArray, List.getElem_cons_zero, List.getElem_cons_succ, List.setIfInBounds_toArray, List.set_cons_zero, List.set_cons_succ]
    refine wpAnyH_take (i := 8) (oi := _) (v := undef) rfl (by kernel_rfl) (by kernel_rfl) (by kernel_rfl) (fun _ _ _ h => h) (Or.inr ⟨by rfl, rfl⟩) hH ?_
    try simp only [Act.put, List.getElem_toArray, List.getElem_cons_zero, List.getElem_cons_succ, List.setIfInBounds_toArray, List.set_cons_zero, List.set_cons_succ]
    refine wpAnyH_take (i := 9) (oi := _) (v := undef) rfl (by kernel_rfl) (by kernel_rfl) (by kernel_rfl) (fun _ _ _ h => h) (Or.inr ⟨by rfl, rfl⟩) hH ?_
    try simp only [Act.put, List.getElem_toArray, List.getElem_cons_zero, List.getElem_cons_succ, List.setIfInBounds_toArray, List.set_cons_zero, List.set_cons_succ]
    refine wpAnyH_take (i := 10) (oi := _) (v := undef) rfl (by kernel_rfl) (by kernel_rfl) (by kernel_rfl) (fun _ _ _ h => h) (Or.inr ⟨by rfl, rfl⟩) hH ?_
    try simp only [Act.put, List.getElem_toArray, List.getElem_cons_zero, List.getElem_cons_succ, List.setIfInBounds_toArray, List.set_cons_zero, List.set_cons_succ]
    refine wpAnyH_take (i := 11) (oi := _) (v := undef) rfl (by kernel_rfl) (by kernel_rfl) (by kernel_rfl) (fun _ _ _ h => h) (Or.inr ⟨by rfl, rfl⟩) hH ?_
    try simp only [Act.put, List.getElem_toArray, List.getElem_cons_zero, List.getElem_cons_succ, List.setIfInBounds_toArray, List.set_cons_zero, List.set_cons_succ]
    refine wpAnyH_take (i := 12) (oi := _) (v := undef) rfl (by kernel_rfl) (by kernel_rfl) (by kernel_rfl) (fun _ _ _ h => h) (Or.inr ⟨by rfl, rfl⟩) hH ?_
    try simp only [Act.put, List.getElem_toArray, List.getElem_cons_zero, List.getElem_cons_succ, List.setIfInBounds_toArray, List.set_cons_zero, List.set_cons_succ]
    refine wpAnyH_take (i := 13) (oi := _) (v := ?_) rfl (by kernel_rfl) (by kernel_rfl) (by kernel_rfl) (fun _ _ _ h => h) (Or.inl ⟨by rfl, ?_⟩) hH ?_
    rotate_left 1
    · intro w0 _; go_simp; try with_reducible rfl
    try simp only [Act.put, List.getElem_toArray, List.getElem_cons_zero, List.getElem_cons_succ, List.setIfInBounds_toArray, List.set_cons_zero, List.set_cons_succ]
    refine wpAnyH_take (i := 14) (oi := _) (v := ?_) rfl (by kernel_rfl) (by kernel_rfl) (by kernel_rfl) (fun _ _ _ h => h) (Or.inl ⟨by rfl, ?_⟩) hH ?_
    rotate_left 1
    · intro w0 _; go_simp; try with_reducible rfl
    try simp only [Act.put, List.getElem_toArray, List.getElem_cons_zero, List.getElem_cons_succ, List.setIfInBounds_toArray, List.set_cons_zero, List.set_cons_succ]
    refine wpAnyH_done (by kernel_rfl) ?_ _
    refine NoPanic.normal ?_
    clear hH
    go_wp2_with fail
    obtain ⟨sv, hblk, hown⟩ := HG.out.upd (S := fun _ => False) (Upd.same hb1) id (fun _ _ _ => id)
    have hsz1 := hb1.size
    have hqq := HQ.out
    have k3 : w1.cell? ⟨q4, 0, none⟩ = some sv := cell_of_block hblk rfl
    have kt : w1.cell? ⟨t, 0, none⟩ = some (.int .u64 eid) := HID.out w1 u1
    have hal : Below w1.heap.size w1 (w1.alloc (.cells #[.int .u64 eid] 23)) := (Below.refl _ _).alloc (Nat.le_refl _) _
    have k3a : (w1.alloc (.cells #[.int .u64 eid] 23)).cell? ⟨q4, 0, none⟩ = some sv := keeper hal k3
    have hblka : ((w1.alloc (.cells #[.int .u64 eid] 23)).drew).heap[q4]? = some (.cells #[sv] 30 (0, 0)) := block_alloc hblk _
    have hrow : Hid (((w1.alloc (.cells #[.int .u64 eid] 23)).drew).ownsRow B 23 1 sv ids.length (ids.map (Value.int .u64))) := World.ownsRow.alloc hown _
    have hnew : Hid (((w1.alloc (.cells #[.int .u64 eid] 23)).drew).heap[w1.heap.size]? = some (Obj.cells #[.int .u64 eid] 23)) := heap_new1 w1 _
    have hbase : B ≤ ((w1.alloc (.cells #[.int .u64 eid] 23)).drew).heap.size := by
      show B ≤ (w1.alloc (.cells #[.int .u64 eid] 23)).heap.size
      have := hal.size
      omega
    have HBASE := Lib.hid hbase
    have hne : ¬ sv.ownBlock = some q4 := fun e => by
      have := (World.ownsRow.lt hown _ e).1
      omega
    have HNE := Lib.hid hne; have HBLKA := Lib.hid hblka
    have ha : Upd (fun b => b = q4 ∨ B ≤ b) w ((w1.alloc (.cells #[.int .u64 eid] 23)).drew) := (u1.trans (Upd.same hal)).drew
    have HA := Lib.hid ha
    have HLT := Lib.hid (fun b (hb : sv.ownBlock = some b) => (World.ownsRow.lt hown b hb).1)
    clear hown hqq hne hblka hbase hblk
    go_wp2_with fail
    go_region_law (refine step_append_src rfl (.tmp 23) (.tmp 29) 30 rfl B 23 i0 (.int .u64 0) 1 8 Try.underlying30 hi hz0 hz1 hz2 rfl (by decide) sv ids.length (ids.map (Value.int .u64)) (by simp [Act.eval]) hrow.out ⟨w1.heap.size, 0, none⟩ 1 1 [.int .u64 eid] (by simp [Act.eval]) rfl (news_u64 hnew.out) (one_u64 _) (by unfold maxLen; omega) (by omega) HBASE.out ?_; intro v2 w5 hown5 hup5 hnew5; obtain ⟨va, vc, rfl⟩ := ownsRow_slice hown5; have k5 := hup5.cell (cell_of_block HBLKA.out rfl : ((w1.alloc (.cells #[.int .u64 eid] 23)).drew).cell? ⟨q4, 0, none⟩ = some sv) HNE.out; have f5 : w5.frozen? ⟨q4, 0, none⟩ = false := free_of_block (hup5.heap HBLKA.out HNE.out))
    all_goals
      have hu5 : Upd (fun b => b = q4 ∨ B ≤ b) w w5 := HA.out.trans (hup5.mono (fun b _ e => .inr (HLT.out b e)))
      have hus : Upd (fun b => b = q4) w5 (w5.setCell ⟨q4, 0, none⟩ (.slice va (ids.length + 1) vc)) := (Upd.refl _ w5).setCell (a := ⟨q4, 0, none⟩) _ (fun _ => rfl)
      have hu6 : Upd (fun b => b = q4 ∨ B ≤ b) w (w5.setCell ⟨q4, 0, none⟩ (.slice va (ids.length + 1) vc)) := hu5.trans (hus.mono (fun b _ e => .inl e))
      have hq4B := HQ.out.2.2.2.1
      have hg6 : Gath B (w5.setCell ⟨q4, 0, none⟩ (.slice va (ids.length + 1) vc)) q4 (ids ++ [eid]) := by
        refine ⟨.slice va (ids.length + 1) vc, by rw [block_setCell (hup5.heap HBLKA.out HNE.out)]; rfl, ?_⟩
        have h := ownsRow_upd hown5 hus (fun b hb e => by
          have := (World.ownsRow.lt hown5 b hb).1
          omega)
        rw [List.length_append, List.map_append]
        exact h
      obtain ⟨w6, hw6⟩ : ∃ w6, w6 = w5.setCell ⟨q4, 0, none⟩ (.slice va (ids.length + 1) vc) := ⟨_, rfl⟩
      rw [← hw6] at hu6 hg6 ⊢
      have HG6 := Lib.hid hg6
      clear k5 f5 hown5 hup5 hus hu5 hg6 hw6 k3 k3a kt
      go_wp2_with fail
      go_ret
      exact ⟨rfl, by simpa using HG6.out, hu6⟩
  | false =>
    go_wp2_with fail
    go_region_held3 (fun z => z.cell? ⟨q1, 0, none⟩ = some (.pointer (some ⟨pl, 0, none⟩)) ∧ z.cell? ⟨q2, 0, none⟩ = some (.int .u64 hz) ∧ z.cell? ⟨q3, 0, none⟩ = some (.slice ra tids.length rc) ∧ z.cell? ⟨t, 4, none⟩ = some (.int .u64 tab))
      (first | (with_reducible exact H124.out _ u1) | (with_reducible exact H124.out _ u0))
      (first | (have _h := hb1; go_at_call 62; (with_reducible refine (HCN.out _ u1).mono ?_); rintro r w2 ⟨rfl, hw2⟩; obtain rfl := hw2) | (go_at_call 76; (with_reducible refine HD0.out.mono ?_); rintro r w1 ⟨rfl, hk1⟩; have u1 := u0.trans (Upd.same hk1); have hb1 := hb0.trans (hk1.mono hb0.size)))
    cases x with
    | false =>
      have HG2 := Lib.hid (HG.out.upd (S := fun _ => False) (Upd.same hb1) id (fun _ _ _ => id))
      go_wp2_with fail
      go_ret
      exact ⟨rfl, by simpa using HG2.out, u1⟩
    | true =>
      go_wp2_with fail
      obtain ⟨sv, hblk, hown⟩ := HG.out.upd (S := fun _ => False) (Upd.same hb1) id (fun _ _ _ => id)
      have hsz1 := hb1.size
      have hqq := HQ.out
      have k3 : w2.cell? ⟨q4, 0, none⟩ = some sv := cell_of_block hblk rfl
      have kt : w2.cell? ⟨t, 0, none⟩ = some (.int .u64 eid) := HID.out w2 u1
      have hal : Below w2.heap.size w2 (w2.alloc (.cells #[.int .u64 eid] 23)) := (Below.refl _ _).alloc (Nat.le_refl _) _
      have k3a : (w2.alloc (.cells #[.int .u64 eid] 23)).cell? ⟨q4, 0, none⟩ = some sv := keeper hal k3
      have hblka : ((w2.alloc (.cells #[.int .u64 eid] 23)).drew).heap[q4]? = some (.cells #[sv] 30 (0, 0)) := block_alloc hblk _
      have hrow : Hid (((w2.alloc (.cells #[.int .u64 eid] 23)).drew).ownsRow B 23 1 sv ids.length (ids.map (Value.int .u64))) := World.ownsRow.alloc hown _
      have hnew : Hid (((w2.alloc (.cells #[.int .u64 eid] 23)).drew).heap[w2.heap.size]? = some (Obj.cells #[.int .u64 eid] 23)) := heap_new1 w2 _
      have hbase : B ≤ ((w2.alloc (.cells #[.int .u64 eid] 23)).drew).heap.size := by
        show B ≤ (w2.alloc (.cells #[.int .u64 eid] 23)).heap.size
        have := hal.size
        omega
      have HBASE := Lib.hid hbase
      have hne : ¬ sv.ownBlock = some q4 := fun e => by
        have := (World.ownsRow.lt hown _ e).1
        omega
      have HNE := Lib.hid hne; have HBLKA := Lib.hid hblka
      have ha : Upd (fun b => b = q4 ∨ B ≤ b) w ((w2.alloc (.cells #[.int .u64 eid] 23)).drew) := (u1.trans (Upd.same hal)).drew
      have HA := Lib.hid ha
      have HLT := Lib.hid (fun b (hb : sv.ownBlock = some b) => (World.ownsRow.lt hown b hb).1)
      clear hown hqq hne hblka hbase hblk
      go_wp2_with fail
      go_region_law (refine step_append_src rfl (.tmp 23) (.tmp 29) 30 rfl B 23 i0 (.int .u64 0) 1 8 Try.underlying30 hi hz0 hz1 hz2 rfl (by decide) sv ids.length (ids.map (Value.int .u64)) (by simp [Act.eval]) hrow.out ⟨w2.heap.size, 0, none⟩ 1 1 [.int .u64 eid] (by simp [Act.eval]) rfl (news_u64 hnew.out) (one_u64 _) (by unfold maxLen; omega) (by omega) HBASE.out ?_; intro v2 w5 hown5 hup5 hnew5; obtain ⟨va, vc, rfl⟩ := ownsRow_slice hown5; have k5 := hup5.cell (cell_of_block HBLKA.out rfl : ((w2.alloc (.cells #[.int .u64 eid] 23)).drew).cell? ⟨q4, 0, none⟩ = some sv) HNE.out; have f5 : w5.frozen? ⟨q4, 0, none⟩ = false := free_of_block (hup5.heap HBLKA.out HNE.out))
      all_goals
        have hu5 : Upd (fun b => b = q4 ∨ B ≤ b) w w5 := HA.out.trans (hup5.mono (fun b _ e => .inr (HLT.out b e)))
        have hus : Upd (fun b => b = q4) w5 (w5.setCell ⟨q4, 0, none⟩ (.slice va (ids.length + 1) vc)) := (Upd.refl _ w5).setCell (a := ⟨q4, 0, none⟩) _ (fun _ => rfl)
        have hu6 : Upd (fun b => b = q4 ∨ B ≤ b) w (w5.setCell ⟨q4, 0, none⟩ (.slice va (ids.length + 1) vc)) := hu5.trans (hus.mono (fun b _ e => .inl e))
        have hq4B := HQ.out.2.2.2.1
        have hg6 : Gath B (w5.setCell ⟨q4, 0, none⟩ (.slice va (ids.length + 1) vc)) q4 (ids ++ [eid]) := by
          refine ⟨.slice va (ids.length + 1) vc, by rw [block_setCell (hup5.heap HBLKA.out HNE.out)]; rfl, ?_⟩
          have h := ownsRow_upd hown5 hus (fun b hb e => by
            have := (World.ownsRow.lt hown5 b hb).1
            omega)
          rw [List.length_append, List.map_append]
          exact h
        obtain ⟨w6, hw6⟩ : ∃ w6, w6 = w5.setCell ⟨q4, 0, none⟩ (.slice va (ids.length + 1) vc) := ⟨_, rfl⟩
        rw [← hw6] at hu6 hg6 ⊢
        have HG6 := Lib.hid hg6
        clear k5 f5 hown5 hup5 hus hu5 hg6 hw6 k3 k3a kt
        go_wp2_with fail
        go_ret
        exact ⟨rfl, by simpa using HG6.out, hu6⟩
end
end Go.Proofs.Ytdohkjpapmkhjaa
