/-
  lapidaryref19.Sort: the numbers of the rows, each put in at its place.
-/
import Derived.Test.YtifcdfilglbdgaaRgrp
import Derived.Test.YtifcdfilglbdgaaSort
import Derived.Deep.RegionLaw
import Derived.Laws.AppendOwnNone
import Derived.Deep.CutRange
import Derived.Deep.CutBlock
namespace Go.Proofs.Ytifcdfilglbdgaa
open Go.RowKit

/-- u is a slice of the cells news, nil perhaps. -/
def SrcAt (w : World) (size : Nat) (u : Value) (m : Nat) (news : List Value) : Prop :=
  (u = .slice none 0 0 ∧ m = 0 ∧ news = []) ∨ ∃ ad c, u = .slice (some ad) m c ∧ news.length = m * size ∧ ∀ j y, news[j]? = some y → w.cell? (ad.add j) = some y
/-- 'append' of what may be nil to a row of one's own, at a step of a region that draws. -/
theorem step_append_src {P : Program} {ops : Array Oper} {o : Oper} {a : Act} {w : World} {K : Act → World → Prop} {Q : Exit → Act → World → Prop} {E : Prop}
    (hg : o.guard = none) (s x : Operand) (t : TypeId) (hop : o.op = Op.call { callee := Callee.builtin Builtin.append, args := #[s, x], argTypes := #[t, t] })
    (base : Nat) (e : TypeId) (i : TypeInfo) (z : Value) (size bytes : Nat) (ht : P.underlying t = some (.slice e)) (hi : P.info? e = some i) (hz : i.zero = some z)
    (hsize : i.size = size) (hby : i.bytes = bytes) (hzs : z.cells.size = size) (hsz : 0 < size)
    (v : Value) (n : Nat) (xs : List Value) (hs : a.eval s = v) (hown : w.ownsRow base e size v n xs)
    (u : Value) (m : Nat) (news : List Value) (hx : a.eval x = u) (hsrc : SrcAt w size u m news)
    (h1 : ∀ u ∈ news, u.oneCell' = true) (h63 : n + m ≤ maxLen) (hbytes : (n + m) * bytes ≤ 140737488355328) (hbase : base ≤ w.heap.size)
    (hK : ∀ v' w', w'.ownsRow base e size v' (n + m) (xs ++ news) → Upd (fun b => v.ownBlock = some b) w w' → (∀ g, v'.ownBlock = some g → v.ownBlock = some g ∨ w.heap.size ≤ g) → K (a.put o.dst v') w') :
    if Region.wanted o (yielded ops a.tmps) = true then Oper.wp P o a w K Q else E := by
  have hw : Region.wanted o (yielded ops a.tmps) = true := by simp [Region.wanted, hg]
  rw [if_pos hw]
  rcases hsrc with ⟨rfl, rfl, rfl⟩ | ⟨ad, c, rfl, hl, hc⟩
  · have hr := run_append_owned_none (P := P) (w := w) base t o.type e i size ht hi v n xs hown
    unfold Oper.wp execOp
    simp only [hop, resolve, invoke, builtin, Sem.run_bind, Sem.run_pure, Result.andThen_ok, List.map_toArray, List.map_cons, List.map_nil, hs, hx, hr]
    exact hK v w (by simpa using hown) (Upd.refl _ _) (fun g h => .inl h)
  · obtain ⟨v', w', hr, h2, h3, h4⟩ := run_append_mine (P := P) (w := w) base t o.type e i z size bytes ht hi hz hsize hby hzs hsz v n xs hown ad m c news hl hc h1 h63 hbytes hbase
    unfold Oper.wp execOp
    simp only [hop, resolve, invoke, builtin, Sem.run_bind, Sem.run_pure, Result.andThen_ok, List.map_toArray, List.map_cons, List.map_nil, hs, hx, hr]
    exact hK v' w' h2 h3 h4

theorem row0 {w : World} {base g : Nat} (h : w.heap[g]? = some (.cells #[] 3)) (hb : base ≤ g) : w.ownsRow base 3 1 (.slice (some ⟨g, 0, none⟩) 0 0) 0 [] :=
  ⟨rfl, .inr ⟨g, 0, #[], rfl, hb, h, Nat.le_refl _, Nat.zero_le _, rfl, rfl⟩⟩
theorem own_below {w0 w w' : World} {e s n : Nat} {v : Value} {xs : List Value} (hb : Below w0.heap.size w0 w) (h : w.ownsRow w0.heap.size e s v n xs) (hu : Upd (fun b => v.ownBlock = some b) w w') : Below w0.heap.size w0 w' :=
  hb.trans (hu.below hb.size (fun b hlt e => by have := (World.ownsRow.lt h b e).1; omega))
theorem rs_fin {w7 : World} {base base' a i : Nat} {v : Value} {L M : List Int} (h : w7.ownsRow base 3 1 v (0 + a + 1 + (i - a)) ([] ++ L.map (Value.int .i64) ++ [Value.int .i64 (i : Int)] ++ M.map (Value.int .i64))) (hb : base' ≤ base) (hai : a ≤ i) :
    w7.ownsRow base' 3 1 v (i + 1) ((L ++ (i : Int) :: M).map (Value.int .i64)) := by
  have e : 0 + a + 1 + (i - a) = i + 1 := by omega
  rw [e] at h
  have h2 := ownsRow_base h hb
  simpa using h2
theorem one_int (x : Int) : ∀ u ∈ [Value.int .i64 x], u.oneCell' = true := by
  intro u hu; simp at hu; subst hu; rfl

set_option maxHeartbeats 4000000 in
set_option maxRecDepth 100000 in
/-- lapidaryref19.Sort. -/
theorem refSort_at {w : World} {kv dv : Value} {R : List (List V)} {d : List Bool} {m : Nat} (hk : KeysAt w kv R) (hd : DescAt w dv d) (hR : ∀ r ∈ R, r.length = m) :
    Calls Try.prog 15 #[kv, dv] w fun r w' => ∃ v C, r = .returned v ∧ C.Perm (idxs R.length) ∧ Srt (ltN R d) C ∧ IntsAt w' v C ∧ Below w.heap.size w w' := by
  obtain ⟨i3, hi3, hz30, hz31, hz32⟩ := info_parts Try.info3
  obtain ⟨ka, kc, hkv⟩ : ∃ a c, kv = .slice a R.length c := by obtain ⟨a, c, e, _⟩ := hk; exact ⟨a, c, e⟩
  have hkl : R.length ≤ 1000 := by obtain ⟨a, c, e, h, _⟩ := hk; exact h
  subst hkv
  obtain ⟨kb, ko, rvf, hcell⟩ := hk.nth
  have hless : ∀ w', Below w.heap.size w w' → ∀ i j : Nat, i < R.length → j < R.length → Calls Try.prog 18 #[rvf i, rvf j, dv] w' fun e w'' => e = .returned (.bool (ltN R d i j)) ∧ Below w'.heap.size w' w'' := fun w' hb i j hi hj => by
    have h := refLess_at ((hcell i hi).2.2.same hb) ((hcell j hj).2.2.same hb) (hd.same hb) ((hR _ (List.getElem_mem hj)).trans (hR _ (List.getElem_mem hi)).symm)
    unfold ltN
    rw [Int.toNat_natCast, Int.toNat_natCast, show R.getD i [] = R[i] from by simp [hi], show R.getD j [] = R[j] from by simp [hj]]
    exact h
  have hswo := ltN_swo hR d
  have HLESS := Lib.hid hless
  have HCELL := Lib.hid (fun i (hi : i < R.length) => (⟨(hcell i hi).1, (hcell i hi).2.1⟩ : ka = some ⟨kb, ko, none⟩ ∧ w.cell? ⟨kb, ko + i, none⟩ = some (rvf i)))
  obtain ⟨lt, hlt⟩ : ∃ lt, lt = ltN R d := ⟨_, rfl⟩
  obtain ⟨ok, hok⟩ : ∃ ok, ok = okN R := ⟨_, rfl⟩
  obtain ⟨n, hn⟩ : ∃ n, n = R.length := ⟨_, rfl⟩
  have hokn : ∀ x, ok x ↔ 0 ≤ x ∧ x < n := fun x => by rw [hok, hn]; exact Iff.rfl
  rw [← hlt, ← hok] at hswo
  rw [← hlt] at HLESS ⊢
  rw [← hn] at HLESS HCELL hkl ⊢
  have HS := Lib.hid hswo; have HOKN := Lib.hid hokn
  obtain ⟨da, dc, hdv⟩ : ∃ a c, dv = .slice a d.length c := by obtain ⟨a, c, e, _⟩ := hd; exact ⟨a, c, e⟩
  subst hdv
  clear hlt hok hn hless hcell hk hd hR hswo hokn
  go_enter Try.func15, Try.ntmps15
  go_wp2_with fail
  go_loopw [5, 10] (fun v iv wr => ∃ (i : Nat) (C : List Int), i ≤ n ∧ iv = .int .i64 i ∧ wr.ownsRow w.heap.size 3 1 v i (C.map (Value.int .i64)) ∧ Hid (C.Perm (idxs i) ∧ Srt lt C) ∧ Below w.heap.size w wr) (fun _ iv _ => n - (intOf iv).toNat)
  case atStart => exact ⟨0, [], Nat.zero_le _, rfl, World.ownsRow_nil _ _ _ _, Lib.hid ⟨List.Perm.refl _, List.Pairwise.nil⟩, Below.refl _ _⟩
  case round =>
    obtain ⟨i, C, hi, rfl, hown, HC, hB⟩ := hrel
    have hz := hB.size
    have hcl : C.length = i := by have := hown.1; simpa using this
    by_cases hlt : i < n
    · have hi0 : (0 : Int) ≤ (i : Int) := by omega
      have hi1 : (i : Int) < (n : Int) := by omega
      obtain ⟨hka, ci0⟩ := HCELL.out i hlt
      subst hka
      have hcok : ∀ x ∈ C, 0 ≤ x ∧ x < i := fun x hx => mem_idxs.1 (HC.out.1.mem_iff.1 hx)
      have HCOK := Lib.hid hcok; have HCL := Lib.hid hcl
      obtain ⟨oa, oc, hov⟩ := ownsRow_slice hown
      subst hov
      have HOWN := Lib.hid hown
      clear hcok hcl hown
      go_upto_block 2 with fail
      go_cut [7] from 11 to 47 (fun av wx => ∃ (L M : List Int), av = .int .i64 (L.length : Int) ∧ Hid (C = L ++ M) ∧ Hid (∀ x ∈ M, lt (i : Int) x = true) ∧ Hid (L = [] ∨ ∃ L' l, L = L' ++ [l] ∧ lt (i : Int) l = false) ∧ Below wr.heap.size wr wx)
      case first =>
        go_wp2_with fail
        obtain ⟨wo, hwo⟩ : ∃ wo, wo = wr := ⟨_, rfl⟩
        subst hwo
        go_loopw [7] (fun av wq => ∃ L M : List Int, av = .int .i64 (L.length : Int) ∧ Hid (C = L ++ M) ∧ Hid (∀ x ∈ M, lt (i : Int) x = true) ∧ Below wo.heap.size wo wq) (fun av _ => (intOf av).toNat)
        case atStart => exact ⟨C, [], by rw [HCL.out], Lib.hid (List.append_nil C).symm, Lib.hid (fun m hm => by cases hm), Below.refl _ _⟩
        case round =>
          obtain ⟨L, M, rfl, HLM, HM, hQ⟩ := hrel
          have hBq := below_then hB hQ
          rcases List.eq_nil_or_concat L with hL | ⟨L', l, hL⟩
          · subst hL
            rw [show (([] : List Int).length : Int) = 0 from by simp]
            go_wp2_with fail
            go_quiet (fail)
            go_wp2_with fail
            go_meet
            exact ⟨[], M, rfl, HLM, HM, Lib.hid (.inl rfl), hQ.trans below_drewN⟩
          · rw [List.concat_eq_append] at hL
            subst hL
            obtain ⟨k, hk⟩ : ∃ k, k = L'.length := ⟨_, rfl⟩
            have hll := congrArg List.length HLM.out
            rw [HCL.out] at hll
            simp only [List.length_append, List.length_cons, List.length_nil] at hll
            rw [show ((L' ++ [l]).length : Int) = (k : Int) + 1 from by rw [List.length_append, hk]; simp]
            have hlC : l ∈ C := by rw [HLM.out]; simp
            have hlr := HCOK.out l hlC
            obtain ⟨j, hj⟩ := Int.eq_ofNat_of_zero_le hlr.1
            have hji : j < i := by omega
            have hj' : l = (j : Int) := hj
            subst hj'
            have hcg : (C.map (Value.int .i64))[k]? = some (.int .i64 (j : Int)) := by
              rw [HLM.out, hk]
              simp
            obtain ⟨og, oc2, e1, x1, _⟩ := ownsRow_cell1 HOWN.out hcg
            simp only [Value.slice.injEq] at e1
            obtain ⟨rfl, _, rfl⟩ := e1
            have HE := Lib.hid hcg
            obtain ⟨_, cj0⟩ := HCELL.out j (by omega)
            have x1' := keeper hQ x1
            have ci := keeper hBq ci0
            have cj := keeper hBq cj0
            have hcl := fun w' hb => HLESS.out w' hb i j hlt (by omega)
            obtain ⟨y, hy⟩ : ∃ y, y = lt (i : Int) (j : Int) := ⟨_, rfl⟩
            rw [← hy] at hcl
            have HCL2 := Lib.hid hcl; have HY := Lib.hid hy
            have hd0 : Below wr.heap.size wr wr.drew := below_drewN (n := 1)
            have hB0 := below_then hBq hd0
            have HK := Lib.hid hk
            have a1 : IntKind.i64.wrap ((k : Int) + 1 - 1) = (k : Int) := by rw [show (k : Int) + 1 - 1 = (k : Int) from by omega]; exact IntWalk.i64_in _ (by omega)
            have a0 : IntKind.i64.wrap (k : Int) = (k : Int) := IntWalk.i64_in _ (by omega)
            have a2 : (0 : Int) ≤ (k : Int) := by omega
            have a3 : (k : Int) < (i : Int) := by omega
            have a4 : (0 : Int) ≤ (j : Int) := by omega
            have a5 : (j : Int) < (n : Int) := by omega
            have a6 : (k : Int) + 1 > 0 := by omega
            clear hcl hy cj0 hk hll hlC hlr hj hcg x1
            go_wp2_with fail
            go_region_held3 (fun z => z.cell? ⟨kb, ko + i, none⟩ = some (rvf i) ∧ z.cell? ⟨og, k, none⟩ = some (.int .i64 (j : Int)) ∧ z.cell? ⟨kb, ko + j, none⟩ = some (rvf j))
              (first | (with_reducible exact ⟨keeper hd1 ci, keeper hd1 x1', keeper hd1 cj⟩) | (with_reducible exact ⟨keeper hd0 ci, keeper hd0 x1', keeper hd0 cj⟩))
              (first | (go_at_call 18; (with_reducible refine (HCL2.out _ hB0).mono ?_); rintro e w5 ⟨rfl, hk5⟩; have hd1 := below_then hd0 hk5))
            cases y with
            | true =>
              go_wp2_with fail
              go_roundw
              case rel => exact ⟨L', (j : Int) :: M, by rw [← HK.out], Lib.hid (HLM.out.trans (by simp)), Lib.hid (fun x hx => by
                rcases List.mem_cons.1 hx with rfl | hx
                · exact HY.out.symm
                · exact HM.out x hx), hQ.trans (hd1.mono hQ.size)⟩
              case measure => simp [intOf] <;> omega
            | false =>
              go_wp2_with fail
              go_meet
              exact ⟨L' ++ [(j : Int)], M, by rw [List.length_append, ← HK.out]; rfl, HLM, HM, Lib.hid (.inr ⟨L', _, rfl, HY.out.symm⟩), hQ.trans (hd1.mono hQ.size)⟩
      case rest =>
        obtain ⟨L, M, rfl, HLM, HM, HL, hQ⟩ := hcut
        obtain ⟨wq, hwq⟩ : ∃ wq, wq = wc := ⟨_, rfl⟩
        subst hwq
        have hsrc0 := HOWN.out
        obtain ⟨a, ha⟩ : ∃ a, a = L.length := ⟨_, rfl⟩
        rw [← ha]
        have hai : a ≤ i := by
          have := congrArg List.length HLM.out
          rw [HCL.out, List.length_append] at this
          omega
        have HA := Lib.hid ha
        clear ha
        have hml : M.length = i - a := by
          have := congrArg List.length HLM.out
          rw [HCL.out, List.length_append] at this
          have := HA.out
          omega
        have hsort : Srt lt (L ++ (i : Int) :: M) := by
          have hs := HC.out.2
          rw [HLM.out] at hs
          have hin : ∀ x ∈ L ++ M, 0 ≤ x ∧ x < i := fun x hx => HCOK.out x (by rw [HLM.out]; exact hx)
          exact HS.out.insert (fun x hx => (HOKN.out x).2 (by have := hin x hx; omega)) ((HOKN.out _).2 (by omega)) hs (fun x hx => (hin x hx).2) HM.out HL.out
        have hperm : (L ++ (i : Int) :: M).Perm (idxs (i + 1)) := by
          rw [idxs_succ]
          have hp := HC.out.1
          rw [HLM.out] at hp
          exact List.perm_middle.trans ((List.Perm.cons (i : Int) hp).trans (List.perm_append_singleton _ _).symm)
        have hmap : ([] ++ L.map (Value.int .i64) ++ [Value.int .i64 (i : Int)]) ++ M.map (Value.int .i64) = (L ++ (i : Int) :: M).map (Value.int .i64) := by simp
        have HML := Lib.hid hml; have HNEW := Lib.hid (⟨hperm, hsort⟩ : (L ++ (i : Int) :: M).Perm (idxs (i + 1)) ∧ Srt lt (L ++ (i : Int) :: M)); have HMAP := Lib.hid hmap
        have HONE : Hid (∀ l : List Int, ∀ u ∈ l.map (Value.int .i64), u.oneCell' = true) := fun l u hu => by
          obtain ⟨x, _, rfl⟩ := List.mem_map.1 hu
          rfl
        have hBq := below_then hB hQ
        clear hml hsort hperm hmap hsrc0
        rcases HOWN.out.2 with ⟨e1, e2⟩ | ⟨og, oc2, cur, e1, hbase, hblk, hioc, hocm, hcs, _⟩
        · simp only [Value.slice.injEq] at e1
          obtain ⟨rfl, e3, rfl⟩ := e1
          subst e3
          obtain rfl : a = 0 := by omega
          obtain rfl : L = [] := List.eq_nil_of_length_eq_zero HA.out.symm
          obtain rfl : M = [] := List.eq_nil_of_length_eq_zero HML.out
          have HSRC1 : Hid (∀ w' : World, Below wq.heap.size wq w' → SrcAt w' 1 (.slice none 0 0) 0 (([] : List Int).map (Value.int .i64))) := fun _ _ => .inl ⟨rfl, rfl, rfl⟩
          have HSRC2 := HSRC1
          go_wp2_with fail
          -- BEGIN nil
          have hE1 : Hid (((wq.alloc (.cells #[] 3)).drew).ownsRow wq.heap.size 3 1 (.slice (some ⟨wq.heap.size, 0, none⟩) 0 0) 0 []) := row0 (w := (wq.alloc (.cells #[] 3)).drew) (heap_new1 wq _) (Nat.le_refl _)
          have hb1 : Hid (Below wq.heap.size wq ((wq.alloc (.cells #[] 3)).drew)) := (below_alloc wq _).drew
          have hE2 : Hid ((((wq.alloc (.cells #[] 3)).alloc (.cells #[.int .i64 0] 3)).drew).ownsRow wq.heap.size 3 1 (.slice (some ⟨wq.heap.size, 0, none⟩) 0 0) 0 []) := row0 (w := ((wq.alloc (.cells #[] 3)).alloc (.cells #[.int .i64 0] 3)).drew) (block_alloc (heap_new1 wq _) _) (Nat.le_refl _)
          have hb2 : Hid (Below wq.heap.size wq (((wq.alloc (.cells #[] 3)).alloc (.cells #[.int .i64 0] 3)).drew)) := (below_then (below_alloc wq _) (below_alloc _ _)).drew
          have hE3 : Hid ((((wq.alloc (.cells #[.int .i64 0] 3)).alloc (.cells #[] 3)).drew).ownsRow wq.heap.size 3 1 (.slice (some ⟨wq.heap.size + 1, 0, none⟩) 0 0) 0 []) := row0 (w := ((wq.alloc (.cells #[.int .i64 0] 3)).alloc (.cells #[] 3)).drew) (heap_new2 wq _ _) (Nat.le_succ _)
          have hb3 : Hid (Below wq.heap.size wq (((wq.alloc (.cells #[.int .i64 0] 3)).alloc (.cells #[] 3)).drew)) := (below_then (below_alloc wq _) (below_alloc _ _)).drew
          have hI2 : Hid ((((wq.alloc (.cells #[] 3)).alloc (.cells #[.int .i64 0] 3)).drew).heap[wq.heap.size + 1]? = some (Obj.cells #[.int .i64 0] 3)) := heap_new2 wq _ _
          have hI3 : Hid ((((wq.alloc (.cells #[.int .i64 0] 3)).alloc (.cells #[] 3)).drew).heap[wq.heap.size]? = some (Obj.cells #[.int .i64 0] 3)) := block_alloc (heap_new1 wq _) _
          go_region_law (first
            | (refine step_append_src rfl (.tmp 35) (.tmp 38) 28 rfl wq.heap.size 3 i3 (.int .i64 0) 1 8 Try.underlying28 hi3 hz30 hz31 hz32 rfl (by decide) (.slice (some ⟨wq.heap.size, 0, none⟩) 0 0) 0 [] (by simp [Act.eval]) hE1.out (.slice none 0 0) 0 (([] : List Int).map (Value.int .i64)) (by simp [Act.eval]) (HSRC1.out _ hb1.out) (HONE.out []) (by unfold maxLen; omega) (by omega) hb1.out.size ?_; intro v1 w5 hown1 hupd1 hnew1; have hb5 := own_below hb1.out hE1.out hupd1)
            | (refine step_append_src rfl (.tmp 35) (.tmp 38) 28 rfl wq.heap.size 3 i3 (.int .i64 0) 1 8 Try.underlying28 hi3 hz30 hz31 hz32 rfl (by decide) (.slice (some ⟨wq.heap.size, 0, none⟩) 0 0) 0 [] (by simp [Act.eval]) hE2.out (.slice none 0 0) 0 (([] : List Int).map (Value.int .i64)) (by simp [Act.eval]) (HSRC1.out _ hb2.out) (HONE.out []) (by unfold maxLen; omega) (by omega) hb2.out.size ?_; intro v1 w5 hown1 hupd1 hnew1; have hb5 := own_below hb2.out hE2.out hupd1; have hI5 := hupd1.heap hI2.out (by simp [Value.ownBlock]))
            | (refine step_append_src rfl (.tmp 35) (.tmp 38) 28 rfl wq.heap.size 3 i3 (.int .i64 0) 1 8 Try.underlying28 hi3 hz30 hz31 hz32 rfl (by decide) (.slice (some ⟨wq.heap.size + 1, 0, none⟩) 0 0) 0 [] (by simp [Act.eval]) hE3.out (.slice none 0 0) 0 (([] : List Int).map (Value.int .i64)) (by simp [Act.eval]) (HSRC1.out _ hb3.out) (HONE.out []) (by unfold maxLen; omega) (by omega) hb3.out.size ?_; intro v1 w5 hown1 hupd1 hnew1; have hb5 := own_below hb3.out hE3.out hupd1; have hI5 := hupd1.heap hI3.out (by simp [Value.ownBlock]))
            | (have _h := hI5; refine step_append_src rfl (.tmp 39) (.tmp 41) 28 rfl wq.heap.size 3 i3 (.int .i64 0) 1 8 Try.underlying28 hi3 hz30 hz31 hz32 rfl (by decide) v1 (0 + 0) ([] ++ ([] : List Int).map (Value.int .i64)) (by simp [Act.eval]) hown1 (.slice (some ⟨wq.heap.size + 1, 0, none⟩) 1 1) 1 [.int .i64 0] (by simp [Act.eval]) (.inr ⟨_, _, rfl, rfl, news_one hI5⟩) (one_int _) (by unfold maxLen; omega) (by omega) hb5.size ?_; intro v2 w6 hown2 hupd2 hnew2; have hb6 := own_below hb5 hown1 hupd2)
            | (have _h := hI5; refine step_append_src rfl (.tmp 39) (.tmp 41) 28 rfl wq.heap.size 3 i3 (.int .i64 0) 1 8 Try.underlying28 hi3 hz30 hz31 hz32 rfl (by decide) v1 (0 + 0) ([] ++ ([] : List Int).map (Value.int .i64)) (by simp [Act.eval]) hown1 (.slice (some ⟨wq.heap.size, 0, none⟩) 1 1) 1 [.int .i64 0] (by simp [Act.eval]) (.inr ⟨_, _, rfl, rfl, news_one hI5⟩) (one_int _) (by unfold maxLen; omega) (by omega) hb5.size ?_; intro v2 w6 hown2 hupd2 hnew2; have hb6 := own_below hb5 hown1 hupd2)
            | (have _h := hown1; refine step_append_src rfl (.tmp 39) (.tmp 41) 28 rfl wq.heap.size 3 i3 (.int .i64 0) 1 8 Try.underlying28 hi3 hz30 hz31 hz32 rfl (by decide) v1 (0 + 0) ([] ++ ([] : List Int).map (Value.int .i64)) (by simp [Act.eval]) (World.ownsRow.alloc hown1 _) (.slice (some ⟨w5.heap.size, 0, none⟩) 1 1) 1 [.int .i64 0] (by simp [Act.eval]) (.inr ⟨_, _, rfl, rfl, news_one (heap_new1 w5 _)⟩) (one_int _) (by unfold maxLen; omega) (by omega) (hb5.trans ((below_alloc w5 _).mono hb5.size)).size ?_; intro v2 w6 hown2 hupd2 hnew2; have hb6 := own_below (hb5.trans ((below_alloc w5 _).mono hb5.size)) (World.ownsRow.alloc hown1 _) hupd2)
            | (have _h := hown2; refine step_append_src rfl (.tmp 42) (.tmp 45) 28 rfl wq.heap.size 3 i3 (.int .i64 0) 1 8 Try.underlying28 hi3 hz30 hz31 hz32 rfl (by decide) v2 (0 + 0 + 1) ([] ++ ([] : List Int).map (Value.int .i64) ++ [.int .i64 0]) (by simp [Act.eval]) hown2 (.slice none 0 0) (0) (([] : List Int).map (Value.int .i64)) (by simp [Act.eval]) (HSRC2.out _ hb6) (HONE.out []) (by unfold maxLen; omega) (by omega) hb6.size ?_; intro v3 w7 hown3 hupd3 hnew3; have hb7 := own_below hb6 hown2 hupd3; have hown4 := Lib.hid (rs_fin (L := []) (M := []) (a := 0) (i := 0) hown3 hBq.size (by omega)); clear hown3 hupd3 hnew3))
          -- END nil
          all_goals (go_wp2_with fail; go_roundw)
          all_goals first
            | exact ⟨1, [0], by omega, rfl, hown4.out, Lib.hid ⟨List.Perm.refl (idxs 1), List.pairwise_singleton _ _⟩, hBq.trans (hb7.mono hBq.size)⟩
            | (simp [intOf]; omega)
        · simp only [Value.slice.injEq] at e1
          obtain ⟨rfl, _, rfl⟩ := e1
          have hsr : ∀ (w' : World), Below wq.heap.size wq w' → ∀ (t : Nat) (y : Value), (C.map (Value.int .i64))[t]? = some y → w'.cell? ⟨og, t, none⟩ = some y := fun w' hb t y ht => by
            obtain ⟨og', oc', e1, x1, _⟩ := ownsRow_cell1 HOWN.out ht
            simp only [Value.slice.injEq, Option.some.injEq, Addr.mk.injEq] at e1
            obtain ⟨⟨rfl, _⟩, _, _⟩ := e1
            exact keeper hb (keeper hQ x1)
          have HSRC1 : Hid (∀ w' : World, Below wq.heap.size wq w' → SrcAt w' 1 (.slice (some ⟨og, 0, none⟩) a oc) a (L.map (Value.int .i64))) := fun w' hb => .inr ⟨⟨og, 0, none⟩, oc, rfl, by rw [List.length_map, ← HA.out]; omega, fun j y hy => by
            rw [Addr.add_lit, Nat.zero_add]
            refine hsr w' hb j y ?_
            rw [HLM.out, List.map_append, List.getElem?_append_left (List.getElem?_eq_some_iff.1 hy).1]
            exact hy⟩
          have HSRC2 : Hid (∀ w' : World, Below wq.heap.size wq w' → SrcAt w' 1 (.slice (if oc = a then some ⟨og, 0, none⟩ else some ⟨og, a, none⟩) (i - a) (oc - a)) (i - a) (M.map (Value.int .i64))) := fun w' hb => by
            right
            by_cases hoc : oc = a
            · have hz0 : M = [] := List.eq_nil_of_length_eq_zero (by rw [HML.out]; omega)
              refine ⟨⟨og, 0, none⟩, oc - a, by rw [if_pos hoc], by rw [List.length_map, HML.out]; omega, fun j y hy => ?_⟩
              rw [hz0] at hy
              cases hy
            · refine ⟨⟨og, a, none⟩, oc - a, by rw [if_neg hoc], by rw [List.length_map, HML.out]; omega, fun j y hy => ?_⟩
              rw [Addr.add_lit]
              refine hsr w' hb (a + j) y ?_
              rw [HLM.out, List.map_append, List.getElem?_append_right (by rw [List.length_map, ← HA.out]; omega), List.length_map, ← HA.out, show a + j - a = j from by omega]
              exact hy
          have b1 : (a : Int) ≤ (i : Int) := by omega
          have b2 : (0 : Int) ≤ (a : Int) := by omega
          have b3 : (i : Int) ≤ (oc : Int) := by omega
          have b4 : (a : Int) ≤ (oc : Int) := by omega
          clear hblk hcs hsr
          go_wp2_with fail
          -- BEGIN some
          have hE1 : Hid (((wq.alloc (.cells #[] 3)).drew).ownsRow wq.heap.size 3 1 (.slice (some ⟨wq.heap.size, 0, none⟩) 0 0) 0 []) := row0 (w := (wq.alloc (.cells #[] 3)).drew) (heap_new1 wq _) (Nat.le_refl _)
          have hb1 : Hid (Below wq.heap.size wq ((wq.alloc (.cells #[] 3)).drew)) := (below_alloc wq _).drew
          have hE2 : Hid ((((wq.alloc (.cells #[] 3)).alloc (.cells #[.int .i64 (i : Int)] 3)).drew).ownsRow wq.heap.size 3 1 (.slice (some ⟨wq.heap.size, 0, none⟩) 0 0) 0 []) := row0 (w := ((wq.alloc (.cells #[] 3)).alloc (.cells #[.int .i64 (i : Int)] 3)).drew) (block_alloc (heap_new1 wq _) _) (Nat.le_refl _)
          have hb2 : Hid (Below wq.heap.size wq (((wq.alloc (.cells #[] 3)).alloc (.cells #[.int .i64 (i : Int)] 3)).drew)) := (below_then (below_alloc wq _) (below_alloc _ _)).drew
          have hE3 : Hid ((((wq.alloc (.cells #[.int .i64 (i : Int)] 3)).alloc (.cells #[] 3)).drew).ownsRow wq.heap.size 3 1 (.slice (some ⟨wq.heap.size + 1, 0, none⟩) 0 0) 0 []) := row0 (w := ((wq.alloc (.cells #[.int .i64 (i : Int)] 3)).alloc (.cells #[] 3)).drew) (heap_new2 wq _ _) (Nat.le_succ _)
          have hb3 : Hid (Below wq.heap.size wq (((wq.alloc (.cells #[.int .i64 (i : Int)] 3)).alloc (.cells #[] 3)).drew)) := (below_then (below_alloc wq _) (below_alloc _ _)).drew
          have hI2 : Hid ((((wq.alloc (.cells #[] 3)).alloc (.cells #[.int .i64 (i : Int)] 3)).drew).heap[wq.heap.size + 1]? = some (Obj.cells #[.int .i64 (i : Int)] 3)) := heap_new2 wq _ _
          have hI3 : Hid ((((wq.alloc (.cells #[.int .i64 (i : Int)] 3)).alloc (.cells #[] 3)).drew).heap[wq.heap.size]? = some (Obj.cells #[.int .i64 (i : Int)] 3)) := block_alloc (heap_new1 wq _) _
          go_region_law (first
            | (refine step_append_src rfl (.tmp 35) (.tmp 38) 28 rfl wq.heap.size 3 i3 (.int .i64 0) 1 8 Try.underlying28 hi3 hz30 hz31 hz32 rfl (by decide) (.slice (some ⟨wq.heap.size, 0, none⟩) 0 0) 0 [] (by simp [Act.eval]) hE1.out (.slice (some ⟨og, 0, none⟩) a oc) a (L.map (Value.int .i64)) (by simp [Act.eval]) (HSRC1.out _ hb1.out) (HONE.out L) (by unfold maxLen; omega) (by omega) hb1.out.size ?_; intro v1 w5 hown1 hupd1 hnew1; have hb5 := own_below hb1.out hE1.out hupd1)
            | (refine step_append_src rfl (.tmp 35) (.tmp 38) 28 rfl wq.heap.size 3 i3 (.int .i64 0) 1 8 Try.underlying28 hi3 hz30 hz31 hz32 rfl (by decide) (.slice (some ⟨wq.heap.size, 0, none⟩) 0 0) 0 [] (by simp [Act.eval]) hE2.out (.slice (some ⟨og, 0, none⟩) a oc) a (L.map (Value.int .i64)) (by simp [Act.eval]) (HSRC1.out _ hb2.out) (HONE.out L) (by unfold maxLen; omega) (by omega) hb2.out.size ?_; intro v1 w5 hown1 hupd1 hnew1; have hb5 := own_below hb2.out hE2.out hupd1; have hI5 := hupd1.heap hI2.out (by simp [Value.ownBlock]))
            | (refine step_append_src rfl (.tmp 35) (.tmp 38) 28 rfl wq.heap.size 3 i3 (.int .i64 0) 1 8 Try.underlying28 hi3 hz30 hz31 hz32 rfl (by decide) (.slice (some ⟨wq.heap.size + 1, 0, none⟩) 0 0) 0 [] (by simp [Act.eval]) hE3.out (.slice (some ⟨og, 0, none⟩) a oc) a (L.map (Value.int .i64)) (by simp [Act.eval]) (HSRC1.out _ hb3.out) (HONE.out L) (by unfold maxLen; omega) (by omega) hb3.out.size ?_; intro v1 w5 hown1 hupd1 hnew1; have hb5 := own_below hb3.out hE3.out hupd1; have hI5 := hupd1.heap hI3.out (by simp [Value.ownBlock]))
            | (have _h := hI5; refine step_append_src rfl (.tmp 39) (.tmp 41) 28 rfl wq.heap.size 3 i3 (.int .i64 0) 1 8 Try.underlying28 hi3 hz30 hz31 hz32 rfl (by decide) v1 (0 + a) ([] ++ L.map (Value.int .i64)) (by simp [Act.eval]) hown1 (.slice (some ⟨wq.heap.size + 1, 0, none⟩) 1 1) 1 [.int .i64 (i : Int)] (by simp [Act.eval]) (.inr ⟨_, _, rfl, rfl, news_one hI5⟩) (one_int _) (by unfold maxLen; omega) (by omega) hb5.size ?_; intro v2 w6 hown2 hupd2 hnew2; have hb6 := own_below hb5 hown1 hupd2)
            | (have _h := hI5; refine step_append_src rfl (.tmp 39) (.tmp 41) 28 rfl wq.heap.size 3 i3 (.int .i64 0) 1 8 Try.underlying28 hi3 hz30 hz31 hz32 rfl (by decide) v1 (0 + a) ([] ++ L.map (Value.int .i64)) (by simp [Act.eval]) hown1 (.slice (some ⟨wq.heap.size, 0, none⟩) 1 1) 1 [.int .i64 (i : Int)] (by simp [Act.eval]) (.inr ⟨_, _, rfl, rfl, news_one hI5⟩) (one_int _) (by unfold maxLen; omega) (by omega) hb5.size ?_; intro v2 w6 hown2 hupd2 hnew2; have hb6 := own_below hb5 hown1 hupd2)
            | (have _h := hown1; refine step_append_src rfl (.tmp 39) (.tmp 41) 28 rfl wq.heap.size 3 i3 (.int .i64 0) 1 8 Try.underlying28 hi3 hz30 hz31 hz32 rfl (by decide) v1 (0 + a) ([] ++ L.map (Value.int .i64)) (by simp [Act.eval]) (World.ownsRow.alloc hown1 _) (.slice (some ⟨w5.heap.size, 0, none⟩) 1 1) 1 [.int .i64 (i : Int)] (by simp [Act.eval]) (.inr ⟨_, _, rfl, rfl, news_one (heap_new1 w5 _)⟩) (one_int _) (by unfold maxLen; omega) (by omega) (hb5.trans ((below_alloc w5 _).mono hb5.size)).size ?_; intro v2 w6 hown2 hupd2 hnew2; have hb6 := own_below (hb5.trans ((below_alloc w5 _).mono hb5.size)) (World.ownsRow.alloc hown1 _) hupd2)
            | (have _h := hown2; refine step_append_src rfl (.tmp 42) (.tmp 45) 28 rfl wq.heap.size 3 i3 (.int .i64 0) 1 8 Try.underlying28 hi3 hz30 hz31 hz32 rfl (by decide) v2 (0 + a + 1) ([] ++ L.map (Value.int .i64) ++ [.int .i64 (i : Int)]) (by simp [Act.eval]) hown2 (.slice (if oc = a then some ⟨og, 0, none⟩ else some ⟨og, a, none⟩) (i - a) (oc - a)) (i - a) (M.map (Value.int .i64)) (by simp [Act.eval]) (HSRC2.out _ hb6) (HONE.out M) (by unfold maxLen; omega) (by omega) hb6.size ?_; intro v3 w7 hown3 hupd3 hnew3; have hb7 := own_below hb6 hown2 hupd3; have hown4 := Lib.hid (rs_fin (L := L) (M := M) (a := a) (i := i) hown3 hBq.size (by omega)); clear hown3 hupd3 hnew3))
          -- END some
          all_goals (go_wp2_with fail; go_roundw)
          all_goals first
            | exact ⟨i + 1, L ++ (i : Int) :: M, by omega, by go_num, hown4.out, HNEW, hBq.trans (hb7.mono hBq.size)⟩
            | (simp [intOf]; omega)
    · have hin : i = n := by omega
      subst hin
      go_wp2_with fail
      go_ret
      exact ⟨_, C, rfl, HC.out.1, HC.out.2, IntsAt.row (base := w.heap.size) (e := 3) (by rw [hcl]; exact hown) (by omega), hB⟩
end Go.Proofs.Ytifcdfilglbdgaa
