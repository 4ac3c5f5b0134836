/-
  fold.Groups: the numbers of the rows, put together by their keys.
-/
import Derived.Test.YtifcdfilglbdgaaGidx
import Derived.Test.YtifcdfilglbdgaaSort
namespace Go.Proofs.Ytifcdfilglbdgaa
open Go.RowKit

theorem natsV_snoc (l : List Nat) (n : Nat) : natsV (l ++ [n]) = natsV l ++ [.int .i64 (n : Int)] := by simp [natsV]
theorem natsV_len (l : List Nat) : (natsV l).length = l.length := by simp [natsV]
theorem news_one {w : World} {b T : Nat} {x : Value} (h : w.heap[b]? = some (.cells #[x] T (0, 0))) : ∀ j u, [x][j]? = some u → w.cell? ((⟨b, 0, none⟩ : Addr).add j) = some u := fun j u hj => by
  match j, hj with
  | 0, hj => obtain rfl := Option.some.inj hj; exact cell_of_block h rfl
theorem upd_frozen {S : Nat → Prop} {w w' : World} {b o : Nat} {x : Value} (u : Upd S w w') (h : w.cell? ⟨b, o, none⟩ = some x) (hs : ¬ S b) : w'.frozen? ⟨b, o, none⟩ = w.frozen? ⟨b, o, none⟩ := by
  have := u.block b (World.block_lt_of_cell? w _ h) hs
  simp only [World.frozen?, this]
section
variable {B : Nat} {w w' : World} {v : Value} {vals : List Value} {G : List (List Nat)}
/-- Rows of two kinds of elements lie apart. -/
theorem rows_kinds {b1 e1 s1 n1 b2 e2 s2 n2 : Nat} {v1 v2 : Value} {x1 x2 : List Value} (h1 : w.ownsRow b1 e1 s1 v1 n1 x1) (h2 : w.ownsRow b2 e2 s2 v2 n2 x2) (he : e1 ≠ e2) : ∀ g, v1.ownBlock = some g → v2.ownBlock ≠ some g := fun g hg hg2 => by
  obtain ⟨c1, k1⟩ := row_block h1 hg
  obtain ⟨c2, k2⟩ := row_block h2 hg2
  exact block_ne k1 k2 he rfl
/-- One group more. -/
theorem GrpRow.push (h : GrpRow B w v vals G) {v' u : Value} {l : List Nat} (hu : w.ownsRow B 3 1 u l.length (natsV l)) (hnew : ∀ (j : Nat) (x : Value), vals[j]? = some x → ∀ b, x.ownBlock = some b → u.ownBlock ≠ some b)
    (hrow : w'.ownsRow B 28 1 v' (G.length + 1) (vals ++ [u])) (hU : Upd (fun b => v.ownBlock = some b) w w') : GrpRow B w' v' (vals ++ [u]) (G ++ [l]) := by
  have hl := h.len
  have hk : ∀ {x : Value} {k : Nat} {xs : List Value}, w.ownsRow B 3 1 x k xs → w'.ownsRow B 3 1 x k xs := fun hx => ownsRow_upd hx hU (fun b hb => fun e => rows_kinds hx h.row (by decide) b hb e)
  refine ⟨by rw [List.length_append]; exact hrow, fun j hj x hx => ?_, fun i j x x' hij hx hx' b hb => ?_⟩
  · by_cases e : j < G.length
    · rw [List.getElem?_append_left (by omega)] at hx
      rw [List.getElem_append_left e]
      exact hk (h.each j e x hx)
    · have ej : j = G.length := by rw [List.length_append] at hj; simp at hj; omega
      subst ej
      rw [List.getElem?_append_right (by omega), hl, Nat.sub_self] at hx
      obtain rfl : u = x := by simpa using hx
      rw [List.getElem_append_right (by omega)]
      simpa using hk hu
  · have hget : ∀ k y, (vals ++ [u])[k]? = some y → (k < G.length ∧ vals[k]? = some y) ∨ (k = G.length ∧ u = y) := fun k y hy => by
      by_cases e : k < G.length
      · rw [List.getElem?_append_left (by omega)] at hy; exact .inl ⟨e, hy⟩
      · rw [List.getElem?_append_right (by omega)] at hy
        have h1 := (List.getElem?_eq_some_iff.1 hy).1
        have : k = G.length := by simp at h1; omega
        subst this
        rw [hl, Nat.sub_self] at hy
        exact .inr ⟨rfl, by simpa using hy⟩
    rcases hget i x hx with ⟨_, h1⟩ | ⟨e1, rfl⟩
    · rcases hget j x' hx' with ⟨_, h2⟩ | ⟨e2, rfl⟩
      · exact h.apart i j x x' hij h1 h2 b hb
      · exact hnew i x h1 b hb
    · rcases hget j x' hx' with ⟨_, h2⟩ | ⟨e2, rfl⟩
      · exact fun e => hnew j x' h2 b e hb
      · omega
/-- One group has one number more. -/
theorem GrpRow.put {g cap j : Nat} (h : GrpRow B w (.slice (some ⟨g, 0, none⟩) G.length cap) vals G) {u u' : Value} {l : List Nat} {w1 : World} (hj : j < G.length) (hu : vals[j]? = some u)
    (hrow : w1.ownsRow B 3 1 u' l.length (natsV l)) (hU : Upd (fun b => u.ownBlock = some b) w w1) (hn : ∀ b, u'.ownBlock = some b → u.ownBlock = some b ∨ w.heap.size ≤ b) :
    GrpRow B (w1.setCell ⟨g, j, none⟩ u') (.slice (some ⟨g, 0, none⟩) G.length cap) (vals.set j u') (G.set j l) := by
  have hl := h.len
  have hg : ∀ x k xs, w1.ownsRow B 3 1 x k xs → (w1.setCell ⟨g, j, none⟩ u').ownsRow B 3 1 x k xs := fun x k xs hx => by
    have hro : w1.ownsRow B 28 1 (.slice (some ⟨g, 0, none⟩) G.length cap) G.length vals := ownsRow_upd h.row hU (fun b hb e => rows_kinds (h.each j hj u hu) h.row (by decide) b e hb)
    exact ownsRow_upd hx ((Upd.refl (fun b => b = g) w1).setCell (a := ⟨g, j, none⟩) u' (fun _ => rfl)) (fun b hb e => rows_kinds hx hro (by decide) b hb (by rw [e]; rfl))
  have hro : w1.ownsRow B 28 1 (.slice (some ⟨g, 0, none⟩) G.length cap) G.length vals := ownsRow_upd h.row hU (fun b hb e => rows_kinds (h.each j hj u hu) h.row (by decide) b e hb)
  have hold : ∀ k x, k ≠ j → vals[k]? = some x → ∀ b, x.ownBlock = some b → u'.ownBlock ≠ some b := fun k x hk hx b hb e => by
    rcases hn b e with e2 | e2
    · exact h.apart k j x u hk hx hu b hb e2
    · have hkl : k < G.length := by have := (List.getElem?_eq_some_iff.1 hx).1; omega
      have := (World.ownsRow.lt (h.each k hkl x hx) b hb).2
      omega
  refine ⟨by rw [List.length_set]; exact ownsRow_set1 hro u', fun k hk x hx => ?_, fun i k x x' hik hx hx' b hb => ?_⟩
  · rw [List.length_set] at hk
    by_cases e : j = k
    · subst e
      rw [List.getElem?_set_self (by omega)] at hx
      obtain rfl : u' = x := by simpa using hx
      rw [List.getElem_set_self]
      exact hg _ _ _ hrow
    · rw [List.getElem?_set_ne e] at hx
      rw [List.getElem_set_ne e]
      exact hg _ _ _ (ownsRow_upd (h.each k hk x hx) hU (fun b hb e2 => h.apart k j x u (Ne.symm e) hx hu b hb e2))
  · have hget : ∀ k y, (vals.set j u')[k]? = some y → (k ≠ j ∧ vals[k]? = some y) ∨ (k = j ∧ u' = y) := fun k y hy => by
      by_cases e : j = k
      · subst e
        rw [List.getElem?_set_self (by omega)] at hy
        exact .inr ⟨rfl, by simpa using hy⟩
      · rw [List.getElem?_set_ne e] at hy
        exact .inl ⟨Ne.symm e, hy⟩
    rcases hget i x hx with ⟨n1, h1⟩ | ⟨e1, rfl⟩
    · rcases hget k x' hx' with ⟨_, h2⟩ | ⟨e2, rfl⟩
      · exact h.apart i k x x' hik h1 h2 b hb
      · exact hold i x n1 h1 b hb
    · rcases hget k x' hx' with ⟨n2, h2⟩ | ⟨e2, rfl⟩
      · exact fun e => hold k x' n2 h2 b e hb
      · omega
end

/-- A row's key, by its number. -/
def kf (R : List (List V)) (i : Nat) : List K := keyR (R.getD i [])
theorem sameR_kf (R : List (List V)) (i j : Nat) : sameR (R.getD i []) (R.getD j []) = decide (kf R i = kf R j) := rfl
theorem Try.info28 : (Try.prog.info? 28).map (fun i => (i.zero, i.size, i.bytes)) = some (some (.slice none 0 0), 1, 24) := by kernel_rfl

set_option maxHeartbeats 4000000 in
set_option maxRecDepth 100000 in
/-- fold.Groups. -/
theorem groups_at {w : World} {kv : Value} {R : List (List V)} (hk : KeysAt w kv R) :
    Calls Try.prog 11 #[kv] w fun r w' => ∃ v vals, r = .returned v ∧ GrpRow w.heap.size w' v vals (grps (kf R) R.length) ∧ Below w.heap.size w w' := by
  obtain ⟨i3, hi3, hz30, hz31, hz32⟩ := info_parts Try.info3
  obtain ⟨i28, hi28, hz280, hz281, hz282⟩ := info_parts Try.info28
  obtain ⟨ka, kc, hkv⟩ : ∃ a c, kv = .slice a R.length c := by obtain ⟨a, c, e, _⟩ := hk; exact ⟨a, c, e⟩
  have hkl : R.length ≤ 1000 := by obtain ⟨a, c, e, h, _⟩ := hk; exact h
  have hrow : ∀ i (h : i < R.length), ∃ b off rv, ka = some ⟨b, off, none⟩ ∧ w.cell? ⟨b, off + i, none⟩ = some rv ∧ RowAt w rv R[i] := by
    obtain ⟨a, c, e, _, h⟩ := hk
    rw [hkv] at e
    simp only [Value.slice.injEq] at e
    obtain ⟨rfl, _, _⟩ := e
    exact h
  have hal := below_alloc w (.cells #[kv] 22)
  have hA := heap_new1 w (.cells #[kv] 22)
  have HK := Lib.hid hk; have HROW := Lib.hid hrow
  clear hk hrow
  subst hkv
  go_enter Try.func11, Try.ntmps11
  go_wp2_with fail
  obtain ⟨wz, hwz⟩ : ∃ wz, wz = w.alloc (.cells #[.slice ka R.length kc] 22) := ⟨_, rfl⟩
  obtain ⟨q1, hq1⟩ : ∃ q1, q1 = w.heap.size := ⟨_, rfl⟩
  rw [← hwz] at hal hA
  rw [← hq1] at hA
  rw [← hwz, ← hq1]
  clear hwz hq1
  have c1 : wz.cell? ⟨q1, 0, none⟩ = some (.slice ka R.length kc) := cell_of_block hA rfl
  clear hA
  go_loopw [3, 9] (fun v i wr => ∃ (k : Nat) (vals : List Value), k ≤ R.length ∧ i = .int .i64 k ∧ GrpRow wz.heap.size wr v vals (grps (kf R) k) ∧ Below wz.heap.size wz wr) (fun _ i _ => R.length - (intOf i).toNat)
  case atStart => exact ⟨0, [], Nat.zero_le _, rfl, GrpRow.nil _ _, Below.refl _ _⟩
  case round =>
    obtain ⟨k, vals, hk, rfl, hG, hB⟩ := hrel
    have hz := hB.size
    by_cases hlt : k < R.length
    · obtain ⟨b, off, rv, hka, cr, hr⟩ := HROW.out k hlt
      subst hka
      have hBw := below_then hal hB
      have cr' := keeper hBw cr
      have hr' := hr.same hBw
      obtain ⟨ra, rac, hrv⟩ : ∃ a c, rv = .slice a R[k].length c := by obtain ⟨a, c, e, _⟩ := hr; exact ⟨a, c, e⟩
      have hkD : R.getD k [] = R[k] := by simp [hlt]
      have hG2 := hG.same (below_alloc wr (.cells #[rv] 34))
      have hB2 := below_then hB (below_alloc wr (.cells #[rv] 34))
      have hBw2 := below_then hal hB2
      have hnk := heap_new1 wr (.cells #[rv] 34)
      have hc5 : (wr.alloc (.cells #[rv] 34)).cell? ⟨wr.heap.size, 0, none⟩ = some rv := cell_of_block hnk rfl
      have hne : ∀ j (h : j < (grps (kf R) k).length), ∃ x l, (grps (kf R) k)[j] = x :: l ∧ x < R.length ∧ l.length < 1000 := fun j hj => by
        obtain ⟨l, hl⟩ := grps_at hj
        have hm := mem_firsts.1 (List.getElem_mem (by rw [← grps_len]; exact hj : j < (firsts (kf R) k).length))
        refine ⟨_, l, hl, by omega, ?_⟩
        have h1 : ((grps (kf R) k)[j]).length ≤ k := by
          simp only [grps, List.getElem_map, grpOf]
          exact Nat.le_trans (List.length_filter_le _ _) (by simp)
        rw [hl] at h1
        simp at h1
        omega
      have hgl : (grps (kf R) k).length ≤ 1000 := by
        rw [grps_len]; unfold firsts
        exact Nat.le_trans (List.length_filter_le _ _) (by simp; omega)
      have hidx := gidx_at (keeper hB2 c1) hc5 (HK.out.same hBw2) (hr'.same (below_alloc _ _)) hG2 hne hgl
      have hkind : ∀ j (h : j < (grps (kf R) k).length), sameR (R.getD (((grps (kf R) k)[j]).headD 0) []) R[k] = decide (kf R ((firsts (kf R) k)[j]'(by rw [← grps_len]; exact h)) = kf R k) := fun j hj => by
        obtain ⟨l, hl⟩ := grps_at hj
        rw [hl, ← hkD]; exact sameR_kf R _ _
      subst hrv
      have HIDX := Lib.hid hidx; have HKIND := Lib.hid hkind; have HG2 := Lib.hid hG2; have HHD := Lib.hid hne
      clear hidx hkind hG2 hnk hc5 hr hr' cr hkD hne
      obtain ⟨oa, oc, hov⟩ := ownsRow_slice hG.row
      subst hov
      have hi1 : (k : Int) < (R.length : Int) := by omega
      clear hG
      go_wp2_with fail
      refine HIDX.out.mono ?_
      rintro e w1 ⟨hor, hk1⟩
      have hG1 := HG2.out.same hk1
      have hB3 := below_then hB2 hk1
      have hz1 := hB3.size
      have hwn : ∀ b, (Value.slice oa (grps (kf R) k).length oc).ownBlock = some b → wz.heap.size ≤ b := fun b hb => (World.ownsRow.lt hG1.row b hb).1
      rcases hor with ⟨j, hj, rfl, hsm⟩ | ⟨rfl, hnone⟩
      · have hj2 : j < (firsts (kf R) k).length := by rw [← grps_len]; exact hj
        have hkd : kf R ((firsts (kf R) k)[j]) = kf R k := by
          have h1 := HKIND.out j hj
          have h2 : sameR (R.getD (((grps (kf R) k)[j]).headD 0) []) R[k] = true := hsm
          rw [h2] at h1
          exact of_decide_eq_true h1.symm
        have hold := grps_old hj2 hkd
        obtain ⟨g, cap, hov, _, hgb, hglt⟩ := ownsRow_some hG1.row (by omega)
        simp only [Value.slice.injEq] at hov
        obtain ⟨rfl, _, rfl⟩ := hov
        have hvl := hG1.len
        have hjv : j < vals.length := by omega
        have hu : vals[j]? = some vals[j] := List.getElem?_eq_getElem hjv
        obtain ⟨g', cap', e1, cu, fu, _⟩ := ownsRow_cell1 hG1.row hu
        simp only [Value.slice.injEq, Option.some.injEq, Addr.mk.injEq] at e1
        obtain ⟨⟨rfl, _⟩, _, rfl⟩ := e1
        have hrowu := hG1.each j hj _ hu
        obtain ⟨u, hue⟩ : ∃ u, u = vals[j] := ⟨_, rfl⟩
        rw [← hue] at cu hrowu hu
        obtain ⟨l, hle⟩ : ∃ l, l = (grps (kf R) k)[j] := ⟨_, rfl⟩
        rw [← hle] at hrowu hold
        have hll : l.length ≤ 1000 := by
          obtain ⟨x, l', hx, _, hl'⟩ := HHD.out j hj
          rw [hle, hx]; simp; omega
        obtain ⟨ua, uc, hus⟩ := ownsRow_slice hrowu
        have hns := natsV_snoc l k
        have hwu : ∀ b, u.ownBlock = some b → wz.heap.size ≤ b := fun b hb => (World.ownsRow.lt hrowu b hb).1
        have hgu : ¬ u.ownBlock = some g := fun e => rows_kinds hrowu hG1.row (by decide) g e rfl
        have hi0 : (0 : Int) ≤ (j : Int) := by omega
        have hij : (j : Int) < ((grps (kf R) k).length : Int) := by omega
        have HG1 := Lib.hid hG1; have HOLD := Lib.hid hold; have HNS := Lib.hid hns; have HU := Lib.hid hu; have HWU := Lib.hid hwu
        have HRU := Lib.hid (World.ownsRow.alloc hrowu (.cells #[.int .i64 (k : Int)] 3))
        have HRUB := Lib.hid hrowu
        have hga := below_alloc w1 (.cells #[.int .i64 (k : Int)] 3)
        have cua := keeper hga cu
        have fua := (frozen_keep hga cu).trans fu
        have HUS := Lib.hid hus
        clear hold hns hu hG1 hrowu hwn hsm hkd hj2 hvl hjv hue hle
        rw [hus] at cu cua
        have hj0 : ¬ (j : Int) < 0 := by omega
        clear hus fu
        go_wp2_with (at_builtin; refine wpList_append_mine rfl (.tmp 29) (.tmp 31) 28 rfl wz.heap.size 3 i3 (.int .i64 0) 1 8 Try.underlying28 hi3 hz30 hz31 hz32 rfl (by decide) u l.length (natsV l) (HUS.out.symm) HRU.out ⟨w1.heap.size, 0, none⟩ 1 1 [.int .i64 (k : Int)] rfl rfl ?c1 ?c2 ?c3 ?c4 ?c5 ?_)
        case c1 => first | exact fun j u h => h | exact cell_one_new _ _ _
        case c2 => intro u hu; simp at hu; subst hu; rfl
        case c3 => unfold maxLen; omega
        case c4 => omega
        case c5 => first | omega | (simp; omega)
        intro u' w5 hown' hupd hnew
        have hU5 : Upd (fun b => u.ownBlock = some b) w1 w5 := (Upd.same hga).trans hupd
        have cu5 := hupd.cell cua hgu
        have fu5 : w5.frozen? ⟨g, j, none⟩ = false := (upd_frozen hupd cua hgu).trans fua
        have hnn : ∀ b, u'.ownBlock = some b → u.ownBlock = some b ∨ w1.heap.size ≤ b := fun b hb => by
          rcases hnew b hb with e | e
          · exact .inl e
          · right; first | omega | (simp at e; omega)
        have hput := HG1.out.put hj HU.out (l := l ++ [k]) (u' := u') (w1 := w5) (by rw [HNS.out, List.length_append]; exact hown') hU5 hnn
        have hb5 : Below wz.heap.size w1 (w5.setCell ⟨g, j, none⟩ u') := Upd.below (S := fun b => u.ownBlock = some b ∨ b = g) ((hU5.mono (fun b _ e => .inl e)).setCell (a := ⟨g, j, none⟩) u' (fun _ => .inr rfl)) hz1 (fun b hb e => by
          rcases e with e | e
          · have := HWU.out _ e; omega
          · omega)
        obtain ⟨xa, xc, hxs⟩ := ownsRow_slice hown'
        subst hxs
        have HPUT := Lib.hid hput; have HB5 := Lib.hid hb5
        clear hput hb5 hupd hU5 hown' cua fua hnew hnn
        go_wp2_with fail
        go_roundw
        case rel => exact ⟨k + 1, _, by omega, by go_num, by rw [HOLD.out]; have := HPUT.out; simpa using this, hB3.trans HB5.out⟩
        case measure => simp [intOf]; omega
      · have hfi : isFirst (kf R) k = true := Classical.byContradiction fun x => by
          obtain ⟨j, hj, e⟩ := not_first x
          have hj2 : j < (grps (kf R) k).length := by rw [grps_len]; exact hj
          have h1 := HKIND.out j hj2
          have h2 : sameR (R.getD (((grps (kf R) k)[j]).headD 0) []) R[k] = false := hnone j hj2
          rw [h2] at h1
          exact of_decide_eq_false h1.symm e
        have hnew' := grps_new hfi
        have hrow2 := World.ownsRow.alloc (World.ownsRow.alloc hG1.row (.cells #[.int .i64 (k : Int)] 3)) (.cells #[.slice (some ⟨w1.heap.size, 0, none⟩) 1 1] 28)
        have hal2 := below_then (below_alloc w1 (.cells #[.int .i64 (k : Int)] 3)) (below_alloc _ (.cells #[.slice (some ⟨w1.heap.size, 0, none⟩) 1 1] 28))
        have hG3 := hG1.same hal2
        have hu : ((w1.alloc (.cells #[.int .i64 (k : Int)] 3)).alloc (.cells #[.slice (some ⟨w1.heap.size, 0, none⟩) 1 1] 28)).ownsRow wz.heap.size 3 1 (.slice (some ⟨w1.heap.size, 0, none⟩) 1 1) ([k] : List Nat).length (natsV [k]) :=
          ⟨by rfl, .inr ⟨w1.heap.size, 1, #[.int .i64 (k : Int)], rfl, hz1, block_alloc (heap_new1 w1 _) _, Nat.le_refl 1, by decide, rfl, rfl⟩⟩
        have hnb : ∀ (j : Nat) (x : Value), vals[j]? = some x → ∀ b, x.ownBlock = some b → (Value.slice (some ⟨w1.heap.size, 0, none⟩) 1 1).ownBlock ≠ some b := fun j x hx b hb e => by
          have hjl : j < (grps (kf R) k).length := by have := (List.getElem?_eq_some_iff.1 hx).1; have := hG1.len; omega
          have := (World.ownsRow.lt (hG1.each j hjl x hx) b hb).2
          simp only [Value.ownBlock, Option.some.injEq] at e
          omega
        have HROW2 := Lib.hid hrow2; have HG3 := Lib.hid hG3; have HU := Lib.hid hu; have HNB := Lib.hid hnb; have HNEW := Lib.hid hnew'; have HWN := Lib.hid hwn
        clear hrow2 hG3 hu hnb hnew' hG1 hwn hnone
        go_wp2_with (at_builtin; refine wpList_append_mine rfl (.tmp 19) (.tmp 22) 25 rfl wz.heap.size 28 i28 (.slice none 0 0) 1 24 Try.underlying25 hi28 hz280 hz281 hz282 rfl (by decide) _ _ _ rfl HROW2.out ⟨w1.heap.size + 1, 0, none⟩ 1 1 [.slice (some ⟨w1.heap.size, 0, none⟩) 1 1] rfl rfl ?c1 ?c2 ?c3 ?c4 ?c5 ?_)
        case c1 => first | exact fun j u h => h | exact news_one (heap_new2 w1 _ _)
        case c2 => intro u hu; simp at hu; subst hu; rfl
        case c3 => unfold maxLen; omega
        case c4 => omega
        case c5 => first | omega | (simp; omega)
        intro v' w5 hown' hupd hnw
        have hpush := HG3.out.push HU.out HNB.out hown' hupd
        have hb5 : Below wz.heap.size w1 w5 := Upd.below (S := fun b => (Value.slice oa (grps (kf R) k).length oc).ownBlock = some b) ((Upd.same hal2).trans hupd) hz1 (fun b hb e => by have := HWN.out _ e; omega)
        go_wp2_with fail
        go_roundw
        case rel => exact ⟨k + 1, _, by omega, by go_num, by rw [HNEW.out]; exact hpush, hB3.trans hb5⟩
        case measure => simp [intOf]; omega
    · have hkl2 : k = R.length := by omega
      subst hkl2
      go_wp2_with fail
      go_ret
      exact ⟨_, vals, rfl, ⟨ownsRow_base hG.row hal.size, fun j hj u hu => ownsRow_base (hG.each j hj u hu) hal.size, hG.apart⟩, below_then hal hB⟩
end Go.Proofs.Ytifcdfilglbdgaa
