/-
  FoldStable, the walk: rows that are sorted by one key, and then by another one.
-/
import Derived.Test.YtifcdfilglbdgaaPick
import Derived.Test.YtifcdfilglbdgaaRsort
import Derived.Test.YtifcdfilglbdgaaStab
import Derived.Test.YtifcdfilglbdgaaAwake
import Derived.Deep.RegionHeld3
namespace Go.Proofs.Ytifcdfilglbdgaa
open Go.RowKit

/-- The rows turned about, each in a block of its own. -/
def Turned (w : World) (vals : List Value) (R : List (List V)) : Prop := ∀ (j : Nat) (_ : j < R.length) (u : Value), vals[j]? = some u → ∃ g, u = .slice (some ⟨g, 0, none⟩) 2 2 ∧ w.heap[g]? = some (.cells (vcells ((R.getD j []).getD 1 V0) ++ vcells ((R.getD j []).getD 0 V0)).toArray 39 (0, 0))
theorem RowAt.two {w : World} {b cap : Nat} {v v' : V} (h : w.heap[b]? = some (.cells (vcells v ++ vcells v').toArray 39 (0, 0))) : RowAt w (.slice (some ⟨b, 0, none⟩) 2 cap) [v, v'] := by
  refine ⟨_, cap, rfl, by simp, fun i hi => ?_⟩
  have : i = 0 ∨ i = 1 := by simp at hi; omega
  rcases this with rfl | rfl
  · exact ⟨b, 0, rfl, cell_of_block h rfl, cell_of_block h rfl, cell_of_block h rfl, cell_of_block h rfl⟩
  · exact ⟨b, 0, rfl, cell_of_block h rfl, cell_of_block h rfl, cell_of_block h rfl, cell_of_block h rfl⟩
theorem Turned.upd {w w' : World} {vals : List Value} {R : List (List V)} {S : Nat → Prop} (h : Turned w vals R) (u : Upd S w w') (hs : ∀ g x f, w.heap[g]? = some (.cells x 39 f) → ¬ S g) : Turned w' vals R := fun j hj x hx => by
  obtain ⟨g, e, hg⟩ := h j hj x hx
  exact ⟨g, e, u.heap hg (hs g _ _ hg)⟩
theorem row_not39 {w : World} {base e size n : Nat} {v : Value} {xs : List Value} (h : w.ownsRow base e size v n xs) (he : e ≠ 39) (g : Nat) (x : Array Value) (f : Nat × Nat) (hg : w.heap[g]? = some (.cells x 39 f)) : ¬ v.ownBlock = some g := fun hv => by
  obtain ⟨cur, hc⟩ := row_block h hv
  exact block_ne hc hg he rfl
theorem Turned.keys {w : World} {B : Nat} {v : Value} {vals : List Value} {R : List (List V)} (h : Turned w vals R) (ho : w.ownsRow B 34 1 v R.length vals) (hl : R.length ≤ 1000) : KeysAt w v (bothR R) :=
  KeysAt.own (R := bothR R) (by rw [bothR_len]; exact ho) (by rw [bothR_len]; exact hl) (fun j hj u hu => by
    have hj2 : j < R.length := by rw [bothR_len] at hj; exact hj
    obtain ⟨g, rfl, hg⟩ := h j hj2 u hu
    have e : (bothR R)[j] = [(R.getD j []).getD 1 V0, (R.getD j []).getD 0 V0] := by simp [bothR, hj2]
    rw [e]
    exact RowAt.two hg)

set_option maxHeartbeats 8000000 in
set_option maxRecDepth 100000 in
theorem foldStable_any {w : World} {lv : Value} {L : List (List V)} (hL : KeysIn w lv L) :
    Calls Try.prog 5 #[lv] w fun e w' => e = .returned (.bool true) ∧ Below w.heap.size w w' := by
  obtain ⟨i3, hi3, hz30, hz31, hz32⟩ := info_parts Try.info3
  obtain ⟨i34, hi34, hz340, hz341, hz342⟩ := info_parts Try.info34
  obtain ⟨la, lc, hlv⟩ : ∃ a c, lv = .slice a L.length c := by obtain ⟨a, c, e, _⟩ := hL; exact ⟨a, c, e⟩
  have HL := Lib.hid hL
  clear hL
  have hfew : ∀ w', Below w.heap.size w w' → Calls Try.prog 10 #[lv, .int .i64 2] w' _ := fun w' hb => few_own (HL.out.same hb) (by decide : 2 ≤ 3)
  have HFEW := Lib.hid hfew
  clear hfew
  subst hlv
  go_enter Try.func5, Try.ntmps5
  go_wp2_with fail
  refine (awake_at w).mono ?_
  rintro e w1 ⟨rfl, b1⟩
  go_wp2_with fail
  refine (HFEW.out w1 b1).mono ?_
  rintro e w2 ⟨kv, vals, rfl, hown, heach, b2⟩
  have hB2 := below_then b1 b2
  have hall := fewR_all 2 L
  have hlen := fewR_len 2 L
  obtain ⟨F, hF⟩ : ∃ F, F = fewR 2 L := ⟨_, rfl⟩
  rw [← hF] at hown heach hall hlen
  clear hF HFEW
  obtain ⟨ka, kc, hkv⟩ := ownsRow_slice hown
  have hal : Below w2.heap.size w2 (w2.alloc (.cells #[kv] 22)) := below_alloc _ _
  have hH := heap_new1 w2 (.cells #[kv] 22)
  have HOWN := Lib.hid hown; have HEACH := Lib.hid heach; have HALL := Lib.hid hall
  subst hkv
  clear hown heach hall
  go_wp2_with fail
  obtain ⟨wz, hwz⟩ : ∃ wz, wz = w2.alloc (.cells #[.slice ka F.length kc] 22) := ⟨_, rfl⟩
  obtain ⟨q, hq⟩ : ∃ q, q = w2.heap.size := ⟨_, rfl⟩
  rw [← hwz] at hal hH
  rw [← hq] at hH
  rw [← hwz, ← hq]
  clear hwz hq
  have hqc : wz.cell? ⟨q, 0, none⟩ = some (.slice ka F.length kc) := cell_of_block hH rfl
  obtain ⟨kb, rvb, rvc, hcap⟩ : ∃ (kb : Nat) (rvb rvc : Nat → Nat), KeysCap wz (.slice ka F.length kc) F kb rvb rvc := by
    rcases (HOWN.out).2 with ⟨e1, e2⟩ | ⟨g, cap, cur, e1, _, hblk, hnc, _⟩
    · exact ⟨0, fun _ => 0, fun _ => 0, ka, kc, rfl, fun i hi => by omega⟩
    · simp only [Value.slice.injEq] at e1
      obtain ⟨rfl, _, rfl⟩ := e1
      have hvl : vals.length = F.length := by have := HOWN.out.1; simpa using this
      have hu : ∀ j (hj : j < F.length), ∃ rb rc, vals[j]'(by omega) = .slice (some ⟨rb, 0, none⟩) 2 rc ∧ 2 ≤ rc := fun j hj => by
        have h := HEACH.out j hj (vals[j]'(by omega)) (List.getElem?_eq_getElem (by omega))
        rcases h.2 with ⟨_, e2⟩ | ⟨g2, cap2, cur2, e2, _, _, hn2, _⟩
        · omega
        · exact ⟨g2, cap2, e2, hn2⟩
      have hu2 : ∀ j, ∃ rb rc, ∀ (hj : j < F.length), vals[j]'(by omega) = .slice (some ⟨rb, 0, none⟩) 2 rc ∧ 2 ≤ rc := fun j => by
        by_cases hj : j < F.length
        · obtain ⟨rb, rc, h⟩ := hu j hj
          exact ⟨rb, rc, fun _ => h⟩
        · exact ⟨0, 0, fun h => absurd h hj⟩
      obtain ⟨rvb, hrvb⟩ := Classical.axiomOfChoice hu2
      obtain ⟨rvc, hrvc⟩ := Classical.axiomOfChoice hrvb
      refine ⟨g, rvb, rvc, _, kc, rfl, fun i hi => ?_⟩
      obtain ⟨e5, e6⟩ := hrvc i hi
      obtain ⟨g3, cap3, e3, c3, _⟩ := ownsRow_cell1 HOWN.out (j := i) (u := vals[i]'(by omega)) (List.getElem?_eq_getElem (by omega))
      simp only [Value.slice.injEq, Option.some.injEq, Addr.mk.injEq] at e3
      obtain ⟨⟨rfl, _⟩, _, _⟩ := e3
      have hr := HEACH.out i hi (vals[i]'(by omega)) (List.getElem?_eq_getElem (by omega))
      have h2 := HALL.out F[i] (List.getElem_mem hi)
      rw [e5] at c3 hr
      refine ⟨rfl, e6, keeper hal c3, ?_⟩
      have := (RowAt.row (B := w1.heap.size) (e := 39) (l := F[i]) (by rw [h2]; exact hr) (by omega)).same hal
      exact this
  have HCAP := Lib.hid hcap
  have hB3 := below_then hB2 hal
  clear hcap hH HOWN HEACH
  go_loopw [5, 6, 20] (fun av bv iv wr => ∃ (i : Nat) (vals2 : List Value), i ≤ F.length ∧ iv = .int .i64 i ∧ wr.ownsRow wz.heap.size 3 1 av i ((idxs i).map (Value.int .i64)) ∧ wr.ownsRow wz.heap.size 34 1 bv i vals2 ∧ Hid (Turned wr vals2 F) ∧ Below wz.heap.size wz wr) (fun _ _ iv _ => F.length - (intOf iv).toNat)
  case atStart => exact ⟨0, [], Nat.zero_le _, rfl, World.ownsRow_nil _ _ _ _, World.ownsRow_nil _ _ _ _, Lib.hid (fun j hj u hu => by cases hu), Below.refl _ _⟩
  case round =>
    obtain ⟨i, vals2, hi, rfl, hA, hBo, HT, hB⟩ := hrel
    have hz := hB.size
    by_cases hlt : i < F.length
    · have hi0 : (0 : Int) ≤ (i : Int) := by omega
      have hi1 : (i : Int) < (F.length : Int) := by omega
      obtain ⟨ka2, kc2, e1, hk⟩ := HCAP.out
      simp only [Value.slice.injEq] at e1
      obtain ⟨rfl, _, rfl⟩ := e1
      obtain ⟨hka, hrc, k0, hrow⟩ := hk i hlt
      subst hka
      have h2 := HALL.out F[i] (List.getElem_mem hlt)
      have hgd : F.getD i [] = F[i] := by simp [hlt]
      obtain ⟨vA, hvA⟩ : ∃ v, v = (F.getD i []).getD 0 V0 := ⟨_, rfl⟩
      obtain ⟨vB, hvB⟩ : ∃ v, v = (F.getD i []).getD 1 V0 := ⟨_, rfl⟩
      obtain ⟨rb, hrb⟩ : ∃ rb, rb = rvb i := ⟨_, rfl⟩
      obtain ⟨rc, hrce⟩ : ∃ rc, rc = rvc i := ⟨_, rfl⟩
      rw [← hrb, ← hrce] at k0 hrow
      have hcells : wz.cell? ⟨rb, 0, none⟩ = some (.int .u8 vA.k) ∧ wz.cell? ⟨rb, 1, none⟩ = some (.int .i64 vA.i) ∧ wz.cell? ⟨rb, 2, none⟩ = some (.string vA.s) ∧ wz.cell? ⟨rb, 3, none⟩ = some (.bool vA.b) ∧
          wz.cell? ⟨rb, 4, none⟩ = some (.int .u8 vB.k) ∧ wz.cell? ⟨rb, 5, none⟩ = some (.int .i64 vB.i) ∧ wz.cell? ⟨rb, 6, none⟩ = some (.string vB.s) ∧ wz.cell? ⟨rb, 7, none⟩ = some (.bool vB.b) := by
        obtain ⟨a, cap, e, _, hx⟩ := hrow
        simp only [Value.slice.injEq] at e
        obtain ⟨rfl, _, rfl⟩ := e
        obtain ⟨b1, o1, e1, x0, x1, x2, x3⟩ := hx 0 (by omega)
        obtain ⟨b2, o2, e2, y0, y1, y2, y3⟩ := hx 1 (by omega)
        simp only [Option.some.injEq, Addr.mk.injEq] at e1 e2
        obtain ⟨rfl, rfl, _⟩ := e1
        obtain ⟨rfl, rfl, _⟩ := e2
        have ea : vA = F[i][0]'(by omega) := by rw [hvA, hgd]; simp [show 0 < F[i].length by omega]
        have eb : vB = F[i][1]'(by omega) := by rw [hvB, hgd]; simp [show 1 < F[i].length by omega]
        rw [ea, eb]
        exact ⟨x0, x1, x2, x3, y0, y1, y2, y3⟩
      obtain ⟨ak, ai, sa, ab⟩ := vA
      obtain ⟨bk, bi, sb, bb⟩ := vB
      simp only at hcells
      obtain ⟨x0, x1, x2, x3, y0, y1, y2, y3⟩ := hcells
      have HKEEP := Lib.hid (fun (w' : World) (hb : Below wz.heap.size wz w') => (⟨keeper hb hqc, keeper hb k0, keeper hb x0, keeper hb x1, keeper hb x2, keeper hb x3, keeper hb y0, keeper hb y1, keeper hb y2, keeper hb y3⟩ :
        w'.cell? ⟨q, 0, none⟩ = some (.slice (some ⟨kb, 0, none⟩) F.length kc) ∧ w'.cell? ⟨kb, i, none⟩ = some (.slice (some ⟨rb, 0, none⟩) 2 rc) ∧
        w'.cell? ⟨rb, 0, none⟩ = some (.int .u8 ak) ∧ w'.cell? ⟨rb, 1, none⟩ = some (.int .i64 ai) ∧ w'.cell? ⟨rb, 2, none⟩ = some (.string sa) ∧ w'.cell? ⟨rb, 3, none⟩ = some (.bool ab) ∧
        w'.cell? ⟨rb, 4, none⟩ = some (.int .u8 bk) ∧ w'.cell? ⟨rb, 5, none⟩ = some (.int .i64 bi) ∧ w'.cell? ⟨rb, 6, none⟩ = some (.string sb) ∧ w'.cell? ⟨rb, 7, none⟩ = some (.bool bb)))
      have hsc : (idxs (i + 1)).map (Value.int .i64) = (idxs i).map (Value.int .i64) ++ [.int .i64 i] := by rw [idxs_succ, List.map_append]; rfl
      have HSC := Lib.hid hsc; have HVA := Lib.hid hvA; have HVB := Lib.hid hvB; have HA := Lib.hid hA; have HBO := Lib.hid hBo
      clear hsc hk k0 hrow h2 hgd hrb hrce hrc hvA hvB x0 x1 x2 x3 y0 y1 y2 y3 hA hBo
      go_wp2_with (at_builtin; refine wpList_append_mine rfl (.tmp 23) (.tmp 25) 28 rfl wz.heap.size 3 i3 (.int .i64 0) 1 8 Try.underlying28 hi3 hz30 hz31 hz32 rfl (by decide) _ _ _ rfl (World.ownsRow.alloc HA.out _) ⟨wr.heap.size, 0, none⟩ 1 1 [.int .i64 i] rfl rfl ?c1 ?c2 ?c3 ?c4 ?c5 ?_)
      case c1 => first | exact fun j u h => h | exact cell_one_new _ _ _
      case c2 => exact one_int _
      case c3 => unfold maxLen; omega
      case c4 => omega
      case c5 => first | omega | (simp; omega)
      intro v1 w5 hA5 hupd _
      have halr : Below wr.heap.size wr (wr.alloc (.cells #[.int .i64 (i : Int)] 3)) := below_alloc _ _
      have hBr : Below wz.heap.size wz (wr.alloc (.cells #[.int .i64 (i : Int)] 3)) := hB.trans (halr.mono hz)
      have hb5 : Below wz.heap.size wz w5 := own_below hBr (World.ownsRow.alloc HA.out _) hupd
      have hB5 : w5.ownsRow wz.heap.size 34 1 u6 i vals2 := ownsRow_upd (World.ownsRow.alloc HBO.out _) hupd (fun g hg e => rows_kinds HBO.out HA.out (by decide) g hg e)
      have hT5 : Turned w5 vals2 F := (HT.out.upd (S := fun _ => False) (Upd.same halr) (fun _ _ _ _ => id)).upd hupd (row_not39 (World.ownsRow.alloc HA.out _) (by decide))
      have HA5 := Lib.hid (by rw [← HSC.out] at hA5; exact hA5 : w5.ownsRow wz.heap.size 3 1 v1 (i + 1) ((idxs (i + 1)).map (Value.int .i64))); have HB5 := Lib.hid hB5; have HT5 := Lib.hid hT5
      clear hA5 hB5 hT5 hupd hBr halr HA HBO HT hB
      have hW0 : Hid (Below wz.heap.size wz w5.drew) := below_then hb5 (below_drewN (n := 1))
      have hW1 : Hid (Below wz.heap.size wz ((w5.alloc (.cells #[.int .u8 bk, .int .i64 bi, .string sb, .bool bb, .int .u8 ak, .int .i64 ai, .string sa, .bool ab] 39)).drew)) := (hb5.trans ((below_alloc w5 _).mono hb5.size)).drew
      have hW2 : Hid (Below wz.heap.size wz (((w5.alloc (.cells #[.int .u8 bk, .int .i64 bi, .string sb, .bool bb, .int .u8 ak, .int .i64 ai, .string sa, .bool ab] 39)).alloc (.cells #[.slice (some ⟨w5.heap.size, 0, none⟩) 2 2] 34)).drew)) := ((hb5.trans ((below_alloc w5 _).mono hb5.size)).trans ((below_alloc _ _).mono (Nat.le_trans hb5.size (below_alloc w5 _).size))).drew
      have hR2 : Hid ((((w5.alloc (.cells #[.int .u8 bk, .int .i64 bi, .string sb, .bool bb, .int .u8 ak, .int .i64 ai, .string sa, .bool ab] 39)).alloc (.cells #[.slice (some ⟨w5.heap.size, 0, none⟩) 2 2] 34)).drew).ownsRow wz.heap.size 34 1 u6 i vals2) := World.ownsRow.alloc (World.ownsRow.alloc HB5.out _) _
      have hRA2 : Hid ((((w5.alloc (.cells #[.int .u8 bk, .int .i64 bi, .string sb, .bool bb, .int .u8 ak, .int .i64 ai, .string sa, .bool ab] 39)).alloc (.cells #[.slice (some ⟨w5.heap.size, 0, none⟩) 2 2] 34)).drew).ownsRow wz.heap.size 3 1 v1 (i + 1) ((idxs (i + 1)).map (Value.int .i64))) := World.ownsRow.alloc (World.ownsRow.alloc HA5.out _) _
      have hN2 : Hid ((((w5.alloc (.cells #[.int .u8 bk, .int .i64 bi, .string sb, .bool bb, .int .u8 ak, .int .i64 ai, .string sa, .bool ab] 39)).alloc (.cells #[.slice (some ⟨w5.heap.size, 0, none⟩) 2 2] 34)).drew).heap[w5.heap.size + 1]? = some (Obj.cells #[.slice (some ⟨w5.heap.size, 0, none⟩) 2 2] 34)) := heap_new2 w5 _ _
      go_wp2_with fail
      go_region_held3 (fun z => z.cell? ⟨q, 0, none⟩ = some (.slice (some ⟨kb, 0, none⟩) F.length kc) ∧ z.cell? ⟨kb, i, none⟩ = some (.slice (some ⟨rb, 0, none⟩) 2 rc) ∧ z.cell? ⟨rb, 0, none⟩ = some (.int .u8 ak) ∧ z.cell? ⟨rb, 1, none⟩ = some (.int .i64 ai) ∧ z.cell? ⟨rb, 2, none⟩ = some (.string sa) ∧ z.cell? ⟨rb, 3, none⟩ = some (.bool ab) ∧ z.cell? ⟨rb, 4, none⟩ = some (.int .u8 bk) ∧ z.cell? ⟨rb, 5, none⟩ = some (.int .i64 bi) ∧ z.cell? ⟨rb, 6, none⟩ = some (.string sb) ∧ z.cell? ⟨rb, 7, none⟩ = some (.bool bb))
        (first | (with_reducible exact HKEEP.out _ hb9) | (with_reducible exact HKEEP.out _ hW2.out) | (with_reducible exact HKEEP.out _ hW1.out) | (with_reducible exact HKEEP.out _ hW0.out))
        (first | (refine step_append_src rfl (.tmp 27) (.tmp 41) 22 rfl wz.heap.size 34 i34 (.slice none 0 0) 1 24 Try.underlying22 hi34 hz340 hz341 hz342 rfl (by decide) u6 i vals2 (by simp [Act.eval]) hR2.out (.slice (some ⟨w5.heap.size + 1, 0, none⟩) 1 1) 1 [.slice (some ⟨w5.heap.size, 0, none⟩) 2 2] (by simp [Act.eval]) (.inr ⟨_, _, rfl, rfl, news_one hN2.out⟩) (by intro u hu; simp at hu; subst hu; rfl) (by unfold maxLen; omega) (by omega) hW2.out.size ?_; intro v2 w9 hB9 hup9 hnew9; have hb9 := own_below hW2.out hR2.out hup9))
      have hA9 : w9.ownsRow wz.heap.size 3 1 v1 (i + 1) ((idxs (i + 1)).map (Value.int .i64)) := ownsRow_upd hRA2.out hup9 (fun g hg e => rows_kinds HA5.out HB5.out (by decide) g hg e)
      have hX13 := block_alloc (heap_new1 w5 (Obj.cells #[.int .u8 bk, .int .i64 bi, .string sb, .bool bb, .int .u8 ak, .int .i64 ai, .string sa, .bool ab] 39)) (Obj.cells #[.slice (some ⟨w5.heap.size, 0, none⟩) 2 2] 34)
      have hT9 : Turned w9 (vals2 ++ [.slice (some ⟨w5.heap.size, 0, none⟩) 2 2]) F := fun j hj u hu => by
        have hvl : vals2.length = i := by have := HB5.out.1; simpa using this
        have hT2 : Turned (((w5.alloc (.cells #[.int .u8 bk, .int .i64 bi, .string sb, .bool bb, .int .u8 ak, .int .i64 ai, .string sa, .bool ab] 39)).alloc (.cells #[.slice (some ⟨w5.heap.size, 0, none⟩) 2 2] 34)).drew) vals2 F := HT5.out.upd (S := fun _ => False) (Upd.same (below_then (below_alloc w5 _) (below_alloc _ _)).drew) (fun _ _ _ _ => id)
        have h9 := hT2.upd hup9 (row_not39 hR2.out (by decide))
        by_cases hji : j < vals2.length
        · rw [List.getElem?_append_left hji] at hu
          exact h9 j hj u hu
        · rw [List.getElem?_append_right (by omega)] at hu
          have hk0 : j - vals2.length = 0 := by
            rcases Nat.eq_zero_or_pos (j - vals2.length) with h | h
            · exact h
            · rw [List.getElem?_eq_none (by simp; omega)] at hu; cases hu
          have hji2 : j = i := by omega
          subst hji2
          rw [hk0] at hu
          simp only [List.getElem?_cons_zero, Option.some.injEq] at hu
          subst hu
          refine ⟨_, rfl, ?_⟩
          rw [← HVA.out, ← HVB.out]
          exact hup9.heap hX13 (row_not39 hR2.out (by decide) _ _ _ hX13)
      have HA9 := Lib.hid hA9; have HT9 := Lib.hid hT9; have HB9 := Lib.hid hB9
      clear hA9 hT9 hB9 hX13 hup9
      go_wp2_with fail
      go_roundw
      case rel => exact ⟨i + 1, _, by omega, by go_num, HA9.out, HB9.out, HT9, hb9⟩
      case measure => simp [intOf]; omega
    · have hil : i = F.length := by omega
      subst hil
      obtain ⟨wl, hwl⟩ : ∃ wl, wl = wr := ⟨_, rfl⟩
      subst hwl
      have hA1000 : ((idxs F.length)).length ≤ 1000 := by rw [idxs_len]; omega
      have hints : IntsAt wl u5 (idxs F.length) := IntsAt.row (base := wz.heap.size) (e := 3) (by rw [idxs_len]; exact hA) hA1000
      have hkb : KeysAt wl u6 (bothR F) := HT.out.keys hBo (by omega)
      have hp1 : Calls Try.prog 19 #[u5, .int .i64 0, .pointer (some ⟨q, 0, none⟩)] wl _ := pick_at (c := 0) (keeper hB hqc) (HCAP.out.same hB) hints (fun x hx => mem_idxs.1 hx) (by decide) (by omega)
      have HP1 := Lib.hid hp1; have HKB := Lib.hid hkb
      have hii : ¬ (F.length : Int) < (F.length : Int) := by omega
      clear hp1 hkb hints hA1000 hA hBo HT
      go_wp2_with fail
      refine HP1.out.mono ?_
      rintro e w5 ⟨pv, rfl, hpk, b5⟩
      have hs1 := sort_at hpk (DescAt.nil _) (colR_all F 0 _) (.inr (stableOk (by rw [colR_len, idxs_len]; exact hlen)))
      rw [colR_len, idxs_len] at hs1
      have HS1 := Lib.hid hs1
      obtain ⟨pa, pc, hpv⟩ : ∃ a c, pv = .slice a F.length c := by obtain ⟨a, c, e, _⟩ := hpk; rw [colR_len, idxs_len] at e; exact ⟨a, c, e⟩
      subst hpv
      have hB5 := below_then hB b5
      clear hs1 hpk
      go_wp2_with fail
      refine HS1.out.mono ?_
      rintro e w6 ⟨fv, C1, rfl, hpm1, hsr1, hi1, b6⟩
      have hB6 := below_then hB5 b6
      have hc1l : C1.length = F.length := by rw [hpm1.length_eq, idxs_len]
      have hp2 : Calls Try.prog 19 #[fv, .int .i64 1, .pointer (some ⟨q, 0, none⟩)] w6 _ := pick_at (c := 1) (keeper hB6 hqc) (HCAP.out.same hB6) hi1 (fun x hx => mem_idxs.1 (hpm1.mem_iff.1 hx)) (by decide) (by omega)
      have HP2 := Lib.hid hp2; have HPM1 := Lib.hid hpm1; have HSR1 := Lib.hid hsr1; have HI1 := Lib.hid hi1; have HC1L := Lib.hid hc1l
      clear hp2 hpm1 hsr1 hi1 hc1l
      go_wp2_with fail
      refine HP2.out.mono ?_
      rintro e w7 ⟨pv2, rfl, hpk2, b7⟩
      have hs2 := sort_at hpk2 (DescAt.nil _) (colR_all F 1 _) (.inr (stableOk (by rw [colR_len, HC1L.out]; exact hlen)))
      rw [colR_len, HC1L.out] at hs2
      have HS2 := Lib.hid hs2
      obtain ⟨pa2, pc2, hpv2⟩ : ∃ a c, pv2 = .slice a F.length c := by obtain ⟨a, c, e, _⟩ := hpk2; rw [colR_len, HC1L.out] at e; exact ⟨a, c, e⟩
      subst hpv2
      clear hs2 hpk2
      go_wp2_with fail
      refine HS2.out.mono ?_
      rintro e w8 ⟨sv, C2, rfl, hpm2, hsr2, hi2, b8⟩
      have hB68 : Below w6.heap.size w6 w8 := below_then b7 b8
      have hB8 := below_then hB6 hB68
      have hBr8 : Below wl.heap.size wl w8 := below_then (below_then b5 b6) hB68
      have hc2l : C2.length = F.length := by rw [hpm2.length_eq, idxs_len]
      have hin2 : ∀ x ∈ C2, 0 ≤ x ∧ x < F.length := fun x hx => mem_idxs.1 (hpm2.mem_iff.1 hx)
      obtain ⟨fa, fc, hfv, _, hfc⟩ := HI1.out.same hB68
      obtain ⟨sa, sc, hsv, _, hsc⟩ := hi2
      have HFC := Lib.hid hfc; have HSC := Lib.hid hsc; have HIN2 := Lib.hid hin2; have HC2L := Lib.hid hc2l; have HPM2 := Lib.hid hpm2; have HSR2 := Lib.hid hsr2
      subst hfv hsv
      clear hfc hsc hin2 hc2l hpm2 hsr2 HP1 HP2 HS1 HS2
      go_wp2_with fail
      obtain ⟨wo, hwo⟩ : ∃ wo, wo = w8 := ⟨_, rfl⟩
      subst hwo
      go_loopw [10, 54] (fun gv tv wr2 => ∃ t : Nat, t ≤ C2.length ∧ tv = .int .i64 t ∧ wr2.ownsRow wo.heap.size 3 1 gv t (((C2.take t).map fun i => C1.getD i.toNat 0).map (Value.int .i64)) ∧ Below wo.heap.size wo wr2) (fun _ tv _ => C2.length - (intOf tv).toNat)
      case atStart => exact ⟨0, Nat.zero_le _, rfl, World.ownsRow_nil _ _ _ _, Below.refl _ _⟩
      case round =>
        obtain ⟨t, ht, rfl, hgot, hQ⟩ := hrel
        have hzq := hQ.size
        by_cases ht2 : t < C2.length
        · obtain ⟨sb0, so, hsa, s0⟩ := HSC.out t ht2
          subst hsa
          have hx := HIN2.out C2[t] (List.getElem_mem ht2)
          obtain ⟨j, hj⟩ := Int.eq_ofNat_of_zero_le hx.1
          have hj' : C2[t] = (j : Int) := hj
          have hjF : j < C1.length := by have := HC1L.out; omega
          obtain ⟨fb0, fo, hfa, f0⟩ := HFC.out j hjF
          subst hfa
          rw [hj'] at s0
          have s0' := keeper hQ s0
          have f0' := keeper hQ f0
          have hstep : ((C2.take (t + 1)).map fun i => C1.getD i.toNat 0).map (Value.int .i64) = ((C2.take t).map fun i => C1.getD i.toNat 0).map (Value.int .i64) ++ [.int .i64 C1[j]] := by
            rw [List.take_succ_eq_append_getElem ht2, List.map_append, List.map_append, hj']
            simp [hjF]
          obtain ⟨y, hy⟩ : ∃ y, y = C1[j] := ⟨_, rfl⟩
          rw [← hy] at f0' hstep
          obtain ⟨xs0, hxs0⟩ : ∃ xs0, xs0 = ((C2.take t).map fun i => C1.getD i.toNat 0).map (Value.int .i64) := ⟨_, rfl⟩
          rw [← hxs0] at hstep hgot
          have HST := Lib.hid hstep; have HGOT := Lib.hid hgot
          clear hxs0
          have t0 : (0 : Int) ≤ (t : Int) := by omega
          have t1 : (t : Int) < (C2.length : Int) := by omega
          have t2 : (0 : Int) ≤ (j : Int) := by omega
          have t3 : (j : Int) < (C1.length : Int) := by omega
          have ht40 : t ≤ 1000 := by have := HC2L.out; omega
          clear hstep hy hx hj hj' s0 f0 hgot
          go_wp2_with (at_builtin; refine wpList_append_mine rfl (.tmp 58) (.tmp 63) 28 rfl wo.heap.size 3 i3 (.int .i64 0) 1 8 Try.underlying28 hi3 hz30 hz31 hz32 rfl (by decide) _ _ _ rfl (World.ownsRow.alloc HGOT.out _) ⟨wr.heap.size, 0, none⟩ 1 1 [.int .i64 y] rfl rfl ?e1 ?e2 ?e3 ?e4 ?e5 ?_)
          case e1 => first | exact cell_one_new _ _ _ | exact fun j u h => h
          case e2 => first | exact one_int _ | rfl
          case e3 => unfold maxLen; omega
          case e4 => omega
          case e5 => first | omega | (simp; omega)
          intro v' w9 hown' hupd _
          have hq9 : Below wo.heap.size wo w9 := own_below (hQ.trans ((below_alloc wr _).mono hzq)) (World.ownsRow.alloc HGOT.out _) hupd
          go_wp2_with fail
          go_roundw
          case rel => exact ⟨t + 1, by omega, by go_num, by rw [HST.out]; exact hown', hq9⟩
          case measure => simp [intOf]; omega
        · have htl : t = C2.length := by omega
          subst htl
          rw [List.take_length] at hgot
          have hg2 : IntsAt wr (u10) (C2.map fun i => C1.getD i.toNat 0) := IntsAt.row (base := wo.heap.size) (e := 3) (by rw [List.length_map]; exact hgot) (by rw [List.length_map]; have := HC2L.out; omega)
          have hB9 := below_then hB8 hQ
          have hs3 := sort_at (HKB.out.same (below_then hBr8 hQ)) (DescAt.nil _) (bothR_all F) (.inr (stableOk (by rw [bothR_len]; exact hlen)))
          rw [bothR_len] at hs3
          have HS3 := Lib.hid hs3; have HG2 := Lib.hid hg2
          have tii : ¬ (C2.length : Int) < (C2.length : Int) := by omega
          clear hs3 hg2 hgot
          go_wp2_with fail
          refine HS3.out.mono ?_
          rintro e wa ⟨tv, C3, rfl, hpm3, hsr3, hi3, ba⟩
          have hsame := stable_law HPM1.out HSR1.out HPM2.out HSR2.out hpm3 hsr3
          rw [← hsame] at hi3
          have HSAME := Lib.hid (sameInts_at (HG2.out.same ba) hi3)
          clear hpm3 hsr3 hsame hi3
          go_wp2_with fail
          refine HSAME.out.mono ?_
          rintro e wb ⟨rfl, kn, rfl⟩
          go_wp2_with fail
          go_ret
          exact ⟨rfl, below_then (below_then hB3 (below_then hB9 ba)) below_drewN⟩
end Go.Proofs.Ytifcdfilglbdgaa
