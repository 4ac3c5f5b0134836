/- The plugs of the log that write, and rows that a call hands back. · The plugs of the heap that read are right. · The plugs of the heap: Get, Stamp, Free, Insert. No conditions. -/
import Derived.Test.YtnkjnclpakfgnaaGreatDoorMc1
namespace Go.Proofs.YtnkjnclpakfgnaaGreatDoor
namespace X
open Go.RowKit

theorem Sim.fresh1 {I : Inv} {K : Keep} {E : Env} {H : T O} {nx : Nat} {m : I.M} {w : World} (h : Sim I K E H nx m w) (b : Nat) (c : Nat × Nat) : ∀ id, nx + 1 ≤ id → (E.bind nx b c).blk id = none := fun id hid => by
  rw [Env.bind_ne (by omega)]; exact h.fresh id (by omega)
theorem Sim.top1 {I : Inv} {K : Keep} {E : Env} {H : T O} {nx : Nat} {m : I.M} {w : World} (h : Sim I K E H nx m w) (b : Nat) (c : Nat × Nat) : (E.bind nx b c).top = nx + 1 := by
  show max E.top (nx + 1) = nx + 1
  rw [h.top]; exact Nat.max_eq_right (Nat.le_succ _)
/-- A row that a call has made, taken in. -/
theorem Sim.row {I : Inv} {K : Keep} {E : Env} {H H' : T O} {nx : Nat} {m : I.M} {w0 w : World} (h : Sim I K E H nx m w0) (hB : Below w0.heap.size w0 w) {v : Value} {n e sz : Nat} {xs : List Value} {l : List V}
    (ho : w.ownsRow w0.heap.size e sz v n xs) (hn : 0 < n) (hl : VRs E l xs) (hs : hset H nx (.grow e sz l) = some H') : ∃ E', E.le E' ∧ VR E' (.sg nx 0 sz n) v ∧ Sim I K E' H' (nx + 1) m w := by
  have hS := h.below hB
  obtain ⟨F, hF, hG, hlv⟩ := hS.inv
  obtain ⟨F0, hF0, hG0, hlv0⟩ := h.inv
  obtain ⟨hx, ⟨_, h0⟩ | ⟨g, cap, cur, rfl, h1, h2, h3, h4, h5, h6⟩⟩ := ho
  · omega
  have hlt : ∀ {b : Nat} {x : Obj}, w0.heap[b]? = some x → b < w0.heap.size := fun hb => lt_of_block hb
  have hgG : K.G g = none := by
    cases hx : K.G g with
    | none => rfl
    | some x => have := hlt (h.frame hx); omega
  have hsz : n * sz ≤ cap * sz := Nat.mul_le_mul_right _ h3
  have ho : OR (E.bind nx g (0, cap)) (.grow e sz l) (0, cap) (.cells cur e) := by
    refine .grow rfl (by rw [h5]; simp) (by rw [hl.1, hx]; exact hsz) ?_ h4
    have := hl.mono (Env.le_bind (h.fresh nx (Nat.le_refl _)) (Nat.le_of_eq h.top) (b := g) (c := (0, cap)))
    rw [hl.1, hx]
    show VRs _ l ((cur.toList.drop 0).take (n * sz))
    rw [List.drop_zero, h6]; exact this
  -- the state's blocks are old
  have hnew : Sim I K (E.bind nx g (0, cap)) H' (nx + 1) m w := by
    refine (hS.take (F := F0) ?_ hG0 hlv0 h2 (fun l e => ?_) hgG (fun hb => ?_) ho hs).2
    · exact I.loc hF0 (Env.le.refl E).sub rfl hB.size (fun b hb => hB.block b (I.lt hF0 hb))
    · obtain ⟨x, hx, _⟩ := h.at l e
      have := hlt hx; omega
    · have := I.lt hF0 hb; omega
  refine ⟨_, Env.le_bind (h.fresh nx (Nat.le_refl _)) (Nat.le_of_eq h.top), ?_, hnew⟩
  have := VR.sg (E := E.bind nx g (0, cap)) (id := nx) (i := 0) (sz := sz) (len := n) (Env.bind_self ..) (by simpa using h3)
  simpa using this

section
variable {TP : TreeP} {hT : TreeOk TP} {N : Int}
theorem pNext_ok {args : List V} {s s' : SM} {v : V} (h : pNext args s = some (v, s')) : Ans (IN TP hT N) 97 args s v s' := by
  unfold pNext at h
  split at h <;> first | (cases h; done) | skip
  rename_i l o H nx h0 lg fuel run own sa sb old hor tr dt ky ns bd sm
  obtain ⟨h1, h⟩ := ck_eq h
  obtain ⟨h2, h⟩ := ck_eq h
  obtain ⟨hr, h⟩ := ck_eq h
  cases h
  obtain ⟨rfl, hne⟩ := nm_ok h1
  obtain rfl : o = 0 := Nat.eq_of_beq_eq_true h2
  refine ans_read (fun {K E w A F c f0 L} hS g hA => ?_)
  obtain ⟨p, hp, hL⟩ := g.log hne
  obtain ⟨x, rfl, hx⟩ := args1 hA
  rw [ptr_at hx hp rfl]
  obtain ⟨J, _, _, _, k2, _⟩ := g.tx.runs hr
  refine (next_at hL).mono ?_
  rintro e w' ⟨rfl, q, rfl⟩
  exact ⟨_, rfl, .sym k2, below_drewN⟩

theorem TxI.ran {E : Env} {f : Int} {L : List Nat} {t : TxM} (ht : TxI N E f L t) (hr : t.run = true) : ∃ n, E.sy t.own = some n ∧ running f L = [n] := by
  obtain ⟨J, rfl, hj, k1, _⟩ := ht.runs hr
  refine ⟨_, k1, ?_⟩
  have e : runTo f (J ++ [1]) (J.length + 1) = runTo f (J ++ [1]) J.length ++ [f + (J.length : Int)] := by rw [runTo_succ]; simp
  have e2 : running f (J ++ [1]) = runTo f (J ++ [1]) (J.length + 1) := by unfold running runTo; simp
  rw [e2, e]
  have : runTo f (J ++ [1]) J.length = [] := by
    unfold runTo
    rw [List.map_eq_nil_iff, List.filter_eq_nil_iff]
    intro i hi
    have hi : i < J.length := by simpa using hi
    have := hj (f + i)
    rw [stt_in (by omega), show (f + (i : Int) - f).toNat = i by omega] at this
    rw [List.getD_eq_getElem?_getD, List.getElem?_append_left hi, ← List.getD_eq_getElem?_getD]
    simpa using this
  rw [this]; rfl

theorem newB_eq {M : Type} {s s' : S M} {o : O} {v v' : V} (h : newB s o v = some (v', s')) : v' = v ∧ ∃ H, hset s.H s.nx o = some H ∧ s' = ⟨H, s.nx + 1, s.m⟩ := by
  obtain ⟨H, hH, h⟩ := ob_eq h
  rw [fN_eq] at h; cases h
  exact ⟨rfl, H, hH, rfl⟩

theorem pAll_ok {args : List V} {s s' : SM} {v : V} (h : pAll args s = some (v, s')) : Ans (IN TP hT N) 38 args s v s' := by
  unfold pAll at h
  split at h <;> first | (cases h; done) | skip
  rename_i l o H nx h0 lg fuel run own sa sb old hor tr dt ky ns bd sm
  obtain ⟨h1, h⟩ := ck_eq h
  obtain ⟨h2, h⟩ := ck_eq h
  obtain ⟨hr, h⟩ := ck_eq h
  obtain ⟨rfl, H', hH, rfl⟩ := newB_eq h
  obtain ⟨rfl, hne⟩ := nm_ok h1
  obtain rfl : o = 0 := Nat.eq_of_beq_eq_true h2
  intro K E w A hS hA
  obtain ⟨F, ⟨c, f0, L, g⟩, _, _⟩ := hS.inv
  obtain ⟨p, hp, hL⟩ := g.log hne
  obtain ⟨x, rfl, hx⟩ := args1 hA
  rw [ptr_at hx hp rfl]
  obtain ⟨n, hn, hrun⟩ := g.tx.ran hr
  refine (all_at hL).mono ?_
  rintro e w' ⟨W, rfl, ho, hB⟩
  rw [hrun] at ho
  obtain ⟨E', q1, q2, q3⟩ := hS.row hB ho (by simp) (l := [.sym .u64 own]) (.cons (.sym hn) .nil) hH
  exact ⟨W, E', rfl, q1, q2, q3⟩
theorem stt_snoc {f : Int} {L : List Nat} {x : Int} {k : Nat} (h : stt f L x = 2) : stt f (L ++ [k]) x = 2 := by
  have h1 : f ≤ x := by
    rcases Int.lt_or_le x f with h2 | h2
    · rw [stt_lo h2] at h; cases h
    · exact h2
  have h3 : x < f + L.length := by
    rcases Int.lt_or_le x (f + L.length) with h2 | h2
    · exact h2
    · rw [stt_hi h2] at h; cases h
  rw [stt_in h1] at h ⊢
  rw [List.getD_eq_getElem?_getD, List.getElem?_append_left (by omega), ← List.getD_eq_getElem?_getD]
  exact h
/-- Nobody runs, then one does. -/
theorem VerI.begun {E E' : Env} {f : Int} {L : List Nat} {t t' : TxM} {r : RV} {v : Ver} (h : VerI E f L t r v) (hs : E.sub E') (hr : t.run = false) : VerI E' f (L ++ [1]) t' r v :=
  { row := h.row, mn1 := fun e => (by have := (h.mn1 e).1; rw [hr] at this; cases this), mn0 := fun e => stt_snoc (h.mn0 e), mx0 := h.mx0
    mx1 := fun e => by have := (h.mx1 e).1; rw [hr] at this; cases this
    mx2 := fun e => ⟨(h.mx2 e).1, stt_snoc (h.mx2 e).2⟩, mx := h.mx, data := let ⟨ns, a, b⟩ := h.data; ⟨ns, a.mono hs, b⟩ }
theorem HpI.map {E E' : Env} {w : World} {c : Nat → Nat} {f f' : Int} {L L' : List Nat} {t t' : TxM} {h h' : HpM} (q : HpI E w c f L t h) (hs : E.sub E') (e1 : h'.pool = h.pool) (e2 : h'.hp = h.hp) (e3 : h'.left = h.left)
    (hp : ∀ P, PgsI E f L t h.pgs P → PgsI E' f' L' t' h'.pgs P) : HpI E' w c f' L' t' h' :=
  ⟨fun e => by
    obtain ⟨pp, lf, a1, a2, a3, a4, a5⟩ := q.1 (by rw [← e1]; exact e)
    refine ⟨pp, lf, by rw [e1]; exact hs.blk a1, a2, by rw [e3]; exact a3, a4, fun e' => ?_⟩
    obtain ⟨hb, lv, rm, P, b1, b2, b3, b4⟩ := a5 (by rw [← e2]; exact e')
    exact ⟨hb, lv, rm, P, by rw [e2]; exact hs.blk b1, b2, b3, hp P b4⟩, fun e => by rw [e1]; exact q.2 (by rw [← e2]; exact e)⟩
theorem PgsI.map {E E' : Env} {f f' : Int} {L L' : List Nat} {t t' : TxM} {l : List PgM} {P : List PgS} (h : PgsI E f L t l P) (hv : ∀ r v, VerI E f L t r v → VerI E' f' L' t' r v) : PgsI E' f' L' t' l P :=
  ⟨h.1, fun i x y a b => ⟨(h.2 i x y a b).1, fun j r o c d => by
    have := (h.2 i x y a b).2 j r o c d
    cases r <;> cases o <;> first | exact this | exact hv _ _ this⟩⟩

theorem pBegin_ok {args : List V} {s s' : SM} {v : V} (h : pBegin args s = some (v, s')) : Ans (IN TP hT N) 111 args s v s' := by
  unfold pBegin at h
  split at h <;> first | (cases h; done) | skip
  rename_i l o H nx h0 lg fuel run own sa sb old hor tr dt ky ns bd sm
  obtain ⟨h1, h⟩ := ck_eq h
  obtain ⟨h2, h⟩ := ck_eq h
  obtain ⟨hr, h⟩ := ck_eq h
  obtain ⟨hfu, h⟩ := ck_eq h
  rw [fN_eq, fN_eq, fN_eq] at h
  cases h
  obtain ⟨rfl, hne⟩ := nm_ok h1
  obtain rfl : o = 0 := Nat.eq_of_beq_eq_true h2
  obtain rfl : run = false := by cases run <;> first | rfl | cases hr
  have hfu : 0 < fuel := Nat.le_of_ble_eq_true hfu
  intro K E w A hS hA
  obtain ⟨F, ⟨c, f, L, g⟩, hG, hl⟩ := hS.inv
  obtain ⟨p, hp, hL⟩ := g.log hne
  obtain ⟨x, rfl, hx⟩ := args1 hA
  rw [ptr_at hx hp rfl]
  have hf := g.tx.fuel
  have hlim := g.tx.lim
  simp only at hf
  refine (begin_at hL (by omega)).mono ?_
  rintro e w' ⟨rfl, hL', hu⟩
  have n0 : E.sy ns = none := g.ns ns (Nat.le_refl _)
  have n1 : (E.addS ns (f + L.length)).sy (ns + 1) = none := by rw [Env.addS_ne (by omega)]; exact g.ns _ (Nat.le_succ _)
  have le1 := Env.le_addS (n := f + L.length) n0
  have le2 := Env.le_addS (n := f + L.length + 1) n1
  have hle := le1.trans le2
  have so : ((E.addS ns (f + L.length)).addS (ns + 1) (f + L.length + 1)).sy ns = some (f + L.length) := le2.sy (Env.addS_self ..)
  have sb1 : ((E.addS ns (f + L.length)).addS (ns + 1) (f + L.length + 1)).sy (ns + 1) = some (f + L.length + 1) := Env.addS_self ..
  have B := g.but hT 1 hle.sub hu (fun b _ h => h) (fun b h => by omega)
  have hlog := hL'.recol (c' := cut c 1 w w') (fun b hb => cut_col hb)
  refine ⟨_, _, rfl, hle, VRs.tup (.cons (.sym so) (.cons (.int _ _) .nil)), ?_⟩
  refine hS.plug hG hl (hu.mono (fun b _ h => (g.fc b).2 (by omega))) hle (Nat.le_refl _) (fun id h => hS.fresh id h) hS.top (F' := fun b => cut c 1 w w' b ≠ 0) ⟨_, f, L ++ [1], B.mk' ?_ ?_ ?_ (B.tree (by omega)) rfl rfl rfl rfl ?_⟩ (fun b hb => ?_)
  · exact fun _ => ⟨p, hle.blk hp, hlog⟩
  · refine { lim := hlim, one := g.tx.one, fuel := ?_, idle := fun h => (by cases h), runs := fun _ => ⟨L, rfl, g.tx.idle rfl, so, ?_, ?_⟩, old := fun s hs => ?_, hor := fun s hs => (by cases hs) }
    · simp only [List.length_append, List.length_singleton]; omega
    · rw [sb1]; simp; omega
    · rw [sb1]; simp; omega
    · obtain ⟨y, e1, e2⟩ := g.tx.old s hs
      exact ⟨y, hle.sy e1, stt_snoc e2⟩
  · exact (B.heap (by omega) (by omega)).map (Env.le.refl _).sub rfl rfl rfl (fun P q => q.map (fun r v hv => hv.begun (Env.le.refl _).sub rfl))
  · intro s hs
    have hs : ns + 1 + 1 ≤ s := hs
    rw [Env.addS_ne (by omega), Env.addS_ne (by omega)]
    exact g.ns s (by show ns ≤ s; omega)
  · rcases @cut_or w w' c 1 b with h1 | ⟨h2, h1⟩ | ⟨h2, _⟩
    · exact absurd h1 hb
    · exact .inl ((g.fc b).2 (by rw [← h1]; exact hb))
    · exact .inr h2
noncomputable def doneV (r : RV) : RV := ⟨r.row, false, nq r.mx 0 2, r.vs⟩
theorem doneP_eq : ∀ {l r : PgM}, doneP l = some r → r = l.map (Option.map doneV)
  | [], r, h => by cases h; rfl
  | x :: l, r, h => by
    obtain ⟨q, hq, h⟩ := ob_eq (o := doneP l) h
    rw [doneP_eq hq] at h
    cases x with
    | none => cases h; rfl
    | some x =>
      obtain ⟨row, mn, mx, vs⟩ := x
      have h : fN (nq mx 0 2) (fun mx => some (some (⟨row, false, mx, vs⟩ : RV) :: l.map (Option.map doneV))) = some r := h
      rw [fN_eq] at h
      cases h; rfl
theorem donePs_eq : ∀ {l r : List PgM}, donePs l = some r → r = l.map (List.map (Option.map doneV))
  | [], r, h => by cases h; rfl
  | x :: l, r, h => by
    obtain ⟨q, hq, h⟩ := ob_eq (o := donePs l) h
    obtain ⟨y, hy, h⟩ := ob_eq (o := doneP x) h
    cases h
    rw [donePs_eq hq, doneP_eq hy]; rfl
theorem PgsI.done {E E' : Env} {f f' : Int} {L L' : List Nat} {t t' : TxM} {l : List PgM} {P : List PgS} (h : PgsI E f L t l P) (hv : ∀ r v, VerI E f L t r v → VerI E' f' L' t' (doneV r) v) : PgsI E' f' L' t' (l.map (List.map (Option.map doneV))) P :=
  ⟨by rw [List.length_map]; exact h.1, fun i x y a b => by
    rw [List.getElem?_map] at a
    obtain ⟨x0, a0, rfl⟩ := Option.map_eq_some_iff.1 a
    refine ⟨by rw [List.length_map]; exact (h.2 i x0 y a0 b).1, fun j r o c d => ?_⟩
    rw [List.getElem?_map] at c
    obtain ⟨r0, c0, rfl⟩ := Option.map_eq_some_iff.1 c
    have := (h.2 i x0 y a0 b).2 j r0 o c0 d
    cases r0 <;> cases o <;> first | exact this | exact hv _ _ this⟩
theorem stt_done {f : Int} {J : List Nat} {x : Int} (h : stt f (J ++ [1]) x = 2) : stt f (J ++ [2]) x = 2 := by
  have h1 : f ≤ x := by
    rcases Int.lt_or_le x f with h2 | h2
    · rw [stt_lo h2] at h; cases h
    · exact h2
  rw [stt_in h1] at h ⊢
  rw [List.getD_eq_getElem?_getD] at h ⊢
  rcases Nat.lt_trichotomy (x - f).toNat J.length with hlt | heq | hgt
  · rw [List.getElem?_append_left hlt] at h ⊢; exact h
  · rw [heq] at h ⊢; simp at h
  · rw [List.getElem?_eq_none (by simp; omega)] at h; cases h
theorem stt_own {f : Int} {J : List Nat} {k : Nat} : stt f (J ++ [k]) (f + J.length) = k := by
  rw [stt_in (by omega), show (f + (J.length : Int) - f).toNat = J.length by omega]; simp

theorem pCommit_ok {args : List V} {s s' : SM} {v : V} (h : pCommit args s = some (v, s')) : Ans (IN TP hT N) 83 args s v s' := by
  unfold pCommit at h
  split at h <;> first | (cases h; done) | skip
  rename_i l o x H nx pool left hp pgs lg fuel run own sa sb old hor tr dt ky ns bd sm
  obtain ⟨h1, h⟩ := ck_eq h
  obtain ⟨h2, h⟩ := ck_eq h
  obtain ⟨hr, h⟩ := ck_eq h
  obtain ⟨xs, hxs, h⟩ := ob_eq h
  obtain ⟨h3, h⟩ := ck_eq h
  obtain ⟨pgs', hpg, h⟩ := ob_eq h
  cases h
  obtain ⟨rfl, hne⟩ := nm_ok h1
  obtain rfl : o = 0 := Nat.eq_of_beq_eq_true h2
  obtain rfl : xs = own := Nat.eq_of_beq_eq_true h3
  obtain rfl := donePs_eq hpg
  subst hr
  intro K E w A hS hA
  obtain ⟨F, ⟨c, f, L, g⟩, hG, hl⟩ := hS.inv
  obtain ⟨p, hp', hL⟩ := g.log hne
  obtain ⟨xa, xb, rfl, ha, hb⟩ := args2 hA
  rw [ptr_at ha hp' rfl]
  obtain ⟨n, rfl, hn⟩ := sU_ok hxs hb
  obtain ⟨J, rfl, hj, k1, _⟩ := g.tx.runs rfl
  rw [k1] at hn; cases hn
  have hstt : stt f (J ++ [1]) (f + J.length) = 1 := stt_own
  have hend : ended f (J ++ [1]) (f + J.length) 2 = J ++ [2] := by
    unfold ended
    rw [if_pos hstt, show (f + (J.length : Int) - f).toNat = J.length by omega]
    simp
  refine (commit_at (hL.recol (c' := col c w.heap.size 1) (fun b hb => col_old hb)) (f + J.length)).mono ?_
  rintro e w' ⟨rfl, hL', hu⟩
  rw [hend] at hL'
  have hcb : ∀ b, c b ≠ 0 → col c w.heap.size 1 b = c b := fun b hb => col_old (Nat.lt_of_not_le fun x => hb (g.out b x))
  have B := g.but hT 1 (Env.le.refl E).sub hu (fun b hb h => by rw [hcb b hb] at h; exact h) (fun b h e => by rw [hcb b (by omega)] at e; omega)
  have hlog := hL'.recol (c' := cut c 1 w w') (fun b hb => cut_col hb)
  have hzero : endErr f (J ++ [1]) (f + J.length) = 0 := by unfold endErr; rw [if_pos hstt]
  rw [hzero]
  refine ⟨_, E, rfl, .refl E, .int _ _, ?_⟩
  refine hS.plug hG hl (hu.mono (fun b hb h => (g.fc b).2 (by rw [col_old hb] at h; omega))) (.refl E) (Nat.le_refl _) (fun id h => hS.fresh id h) hS.top (F' := fun b => cut c 1 w w' b ≠ 0) ⟨_, f, J ++ [2], B.mk' ?_ ?_ ?_ (B.tree (by omega)) rfl rfl rfl rfl g.ns⟩ (fun b hb => ?_)
  · exact fun _ => ⟨p, hp', hlog⟩
  · have hlen : ((J ++ [2]).length : Int) = (J ++ [1]).length := by simp
    refine { lim := g.tx.lim, one := g.tx.one, fuel := (by rw [hlen]; exact g.tx.fuel), idle := fun _ x hx => ?_, runs := fun h => (by cases h), old := fun s hs => ?_, hor := fun s hs => (by rw [hlen]; exact g.tx.hor s hs) }
    · have h1 : f ≤ x := by
        rcases Int.lt_or_le x f with h2 | h2
        · rw [stt_lo h2] at hx; cases hx
        · exact h2
      rcases Nat.lt_trichotomy (x - f).toNat J.length with hlt | heq | hgt
      · refine hj x ?_
        rw [stt_in h1] at hx ⊢
        rw [List.getD_eq_getElem?_getD, List.getElem?_append_left hlt] at hx
        rw [List.getD_eq_getElem?_getD]; exact hx
      · rw [show x = f + (J.length : Int) by omega, stt_own] at hx; cases hx
      · rw [stt_in h1, List.getD_eq_getElem?_getD, List.getElem?_eq_none (by simp; omega)] at hx; cases hx
    · rcases List.mem_cons.1 hs with rfl | hs
      · exact ⟨_, k1, stt_own⟩
      · obtain ⟨y, e1, e2⟩ := g.tx.old s hs
        exact ⟨y, e1, stt_done e2⟩
  · refine (B.heap (by omega) (by omega)).map (Env.le.refl _).sub rfl rfl rfl (fun P q => q.done (fun r u hv => ?_))
    have hfL := hL.1
    have hne0 : ∀ y : Nat, E.sy xs = some (y : Int) → (y : Int) = f + J.length ∧ y ≠ 0 := fun y hy => by
      rw [k1] at hy
      have := Option.some.inj hy
      exact ⟨by omega, by omega⟩
    refine { row := hv.row, mn1 := fun e => (by cases e), mn0 := fun _ => ?_, mx0 := fun e => ?_, mx1 := fun e => ?_, mx2 := fun e => ?_, mx := ?_, data := hv.data }
    · cases hm : r.mn with
      | true =>
        obtain ⟨_, h2⟩ := hv.mn1 hm
        rw [(hne0 _ h2).1]; exact stt_own
      | false => exact stt_done (hv.mn0 hm)
    · refine hv.mx0 ?_
      cases hm : r.mx with
      | zero => rfl
      | succ k => have e : nq r.mx 0 2 = 0 := e; rw [hm] at e; cases e
    · have e : nq r.mx 0 2 = 1 := e
      cases hm : r.mx with
      | zero => rw [hm] at e; cases e
      | succ k => rw [hm] at e; cases e
    · have e : nq r.mx 0 2 = 2 := e
      cases hm : r.mx with
      | zero => rw [hm] at e; cases e
      | succ k =>
        cases k with
        | zero =>
          obtain ⟨_, h2⟩ := hv.mx1 hm
          exact ⟨(hne0 _ h2).2, by rw [(hne0 _ h2).1]; exact stt_own⟩
        | succ k =>
          have := hv.mx
          obtain ⟨q1, q2⟩ := hv.mx2 (by omega)
          exact ⟨q1, stt_done q2⟩
    · show nq r.mx 0 2 ≤ 2
      cases r.mx with
      | zero => exact Nat.zero_le _
      | succ k => exact Nat.le_refl _
  · rcases @cut_or w w' c 1 b with h1 | ⟨h2, h1⟩ | ⟨h2, _⟩
    · exact absurd h1 hb
    · exact .inl ((g.fc b).2 (by rw [← h1]; exact hb))
    · exact .inr h2

theorem pClogNew_ok {args : List V} {s s' : SM} {v : V} (h : pClogNew args s = some (v, s')) : Ans (IN TP hT N) 60 args s v s' := by
  unfold pClogNew at h
  split at h <;> first | (cases h; done) | skip
  rename_i n H nx pool left hp pgs lg fuel run own sa sb _ _ tr dt ky ns bd sm
  obtain ⟨n, hn, h⟩ := ob_eq h
  obtain ⟨h1, h⟩ := ck_eq h
  obtain ⟨h2, h⟩ := ck_eq h
  obtain ⟨h3, h⟩ := ck_eq h
  obtain ⟨h4, h⟩ := ck_eq h
  rw [fN_eq] at h
  cases h
  obtain rfl : n = 1 := Nat.eq_of_beq_eq_true h1
  obtain rfl : lg = 0 := Nat.eq_of_beq_eq_true h2
  obtain rfl : hp = 0 := Nat.eq_of_beq_eq_true h3
  intro K E w A hS hA
  obtain ⟨F, ⟨c, f, L, g⟩, hG, hl⟩ := hS.inv
  obtain ⟨x, rfl, hx⟩ := args1 hA
  obtain rfl := nK_ok (k0 := .u64) hn hx
  refine (new_ok ((1 : Nat) : Int) w (by omega) (by omega) c 1).mono ?_
  rintro e w' ⟨rfl, hL', hB⟩
  have hlt : w.heap.size < w'.heap.size := hL'.lt
  have hnn := hS.fresh nx (Nat.le_refl _)
  have hle : E.le (E.bind nx w.heap.size (0, 0)) := Env.le_bind hnn (Nat.le_of_eq hS.top)
  have hu : Upd (fun _ => False) w w' := Upd.same hB
  have B := g.but hT 1 hle.sub hu (fun b _ h => h.elim) (fun b _ h => h)
  have hlog := hL'.recol (c' := cut c 1 w w') (fun b hb => cut_col hb)
  refine ⟨_, _, rfl, hle, VRs.tup (.cons (VR.ptr (off := 0) (Env.bind_self ..)) (.cons (.int _ _) .nil)), ?_⟩
  refine hS.plug hG hl (hu.mono (fun b _ h => h.elim)) hle (Nat.le_succ _) (hS.fresh1 _ _) (hS.top1 _ _) (F' := fun b => cut c 1 w w' b ≠ 0)
    ⟨_, ((1 : Nat) : Int), [], B.mk' ?_ ?_ ?_ (B.tree (by omega)) rfl rfl rfl rfl g.ns⟩ (fun b hb => ?_)
  · exact fun _ => ⟨_, Env.bind_self .., hlog⟩
  · refine { lim := g.tx.lim, one := (by omega), fuel := ?_, idle := fun _ x hx => ?_, runs := fun h => (by cases h), old := fun s hs => (by cases hs), hor := fun s hs => (by cases hs) }
    · have := g.tx.fuel; have := g.tx.one
      simp only [List.length_nil] at *
      omega
    · have : stt ((1 : Nat) : Int) [] x = 0 := by unfold stt; split <;> rfl
      rw [this] at hx; cases hx
  · have q := B.heap (by omega) (by omega)
    refine ⟨fun e => ?_, fun e => absurd rfl e⟩
    obtain ⟨pp, lf, a1, a2, a3, a4, a5⟩ := q.1 e
    exact ⟨pp, lf, a1, a2, a3, a4, fun e => absurd rfl e⟩
  · rcases @cut_or w w' c 1 b with h1 | ⟨h2, h1⟩ | ⟨h2, _⟩
    · exact absurd h1 hb
    · exact .inl ((g.fc b).2 (by rw [← h1]; exact hb))
    · exact .inr h2
end
end X
end Go.Proofs.YtnkjnclpakfgnaaGreatDoor
namespace Go.Proofs.YtnkjnclpakfgnaaGreatDoor
namespace X
open Go.RowKit

section
variable {TP : TreeP} {hT : TreeOk TP} {N : Int}

theorem pPool_ok {args : List V} {s s' : SM} {v : V} (h : pPool args s = some (v, s')) : Ans (IN TP hT N) 59 args s v s' := by
  unfold pPool at h
  split at h <;> first | (cases h; done) | skip
  rename_i n H nx pool _ hp pgs t tr dt ky ns bd sm
  obtain ⟨n, hn, h⟩ := ob_eq h
  obtain ⟨h1, h⟩ := ck_eq h
  obtain ⟨h2, h⟩ := ck_eq h
  obtain ⟨h3, h⟩ := ck_eq h
  rw [fN_eq, fN_eq] at h
  cases h
  obtain rfl : pool = 0 := Nat.eq_of_beq_eq_true h2
  obtain rfl : hp = 0 := Nat.eq_of_beq_eq_true h3
  have h1 : n ≤ 256 := Nat.le_of_ble_eq_true h1
  intro K E w A hS hA
  obtain ⟨F, ⟨c, f, L, g⟩, hG, hl⟩ := hS.inv
  obtain ⟨x, rfl, hx⟩ := args1 hA
  obtain rfl := nK_ok (k0 := .i64) hn hx
  refine (newpool_at n (by omega) (by omega) w).mono ?_
  rintro e w' ⟨rfl, hP, hB⟩
  have hlt : w.heap.size < w'.heap.size := lt_of_block hP.2
  have hle : E.le (E.bind nx w.heap.size (0, 0)) := Env.le_bind (hS.fresh nx (Nat.le_refl _)) (Nat.le_of_eq hS.top)
  have hu : Upd (fun _ => False) w w' := Upd.same hB
  have B := g.but hT 2 hle.sub hu (fun b _ h => h.elim) (fun b _ h => h)
  refine ⟨_, _, rfl, hle, VRs.tup (.cons (VR.ptr (off := 0) (Env.bind_self ..)) (.cons (.int _ _) .nil)), ?_⟩
  refine hS.plug hG hl (hu.mono (fun b _ h => h.elim)) hle (Nat.le_succ _) (hS.fresh1 _ _) (hS.top1 _ _) (F' := fun b => cut c 2 w w' b ≠ 0)
    ⟨_, f, L, B.mk' (B.log (by omega)) B.tx ?_ (B.tree (by omega)) rfl rfl rfl rfl g.ns⟩ (fun b hb => ?_)
  · refine ⟨fun _ => ⟨_, n, Env.bind_self .., by simpa using hP, Nat.le_refl _, ?_, fun e => absurd rfl e⟩, fun e => absurd rfl e⟩
    rw [cut_col hlt]; exact col_new (Nat.le_refl _)
  · rcases @cut_or w w' c 2 b with h1 | ⟨h2, h1⟩ | ⟨h2, _⟩
    · exact absurd h1 hb
    · exact .inl ((g.fc b).2 (by rw [← h1]; exact hb))
    · exact .inr h2

theorem pHnew_ok {args : List V} {s s' : SM} {v : V} (h : pHnew args s = some (v, s')) : Ans (IN TP hT N) 176 args s v s' := by
  unfold pHnew at h
  split at h <;> first | (cases h; done) | skip
  rename_i p o H nx pool left hp _ t tr dt ky ns bd sm
  obtain ⟨h1, h⟩ := ck_eq h
  obtain ⟨h2, h⟩ := ck_eq h
  obtain ⟨h3, h⟩ := ck_eq h
  rw [fN_eq] at h
  cases h
  obtain ⟨rfl, hne⟩ := nm_ok h1
  obtain rfl : o = 0 := Nat.eq_of_beq_eq_true h2
  obtain rfl : hp = 0 := Nat.eq_of_beq_eq_true h3
  intro K E w A hS hA
  obtain ⟨F, ⟨c, f, L, g⟩, hG, hl⟩ := hS.inv
  obtain ⟨x, rfl, hx⟩ := args1 hA
  obtain ⟨pp, lf, a1, a2, a3, a4, _⟩ := g.heap.1 hne
  rw [ptr_at hx a1 rfl]
  refine (hnew_at w c 3 pp).mono ?_
  rintro e w' ⟨hb, rfl, hge, ⟨lv, rm, hH⟩, hB⟩
  have hle : E.le (E.bind nx hb (0, 0)) := Env.le_bind (hS.fresh nx (Nat.le_refl _)) (Nat.le_of_eq hS.top)
  have hu : Upd (fun _ => False) w w' := Upd.same hB
  have B := g.but hT 3 hle.sub hu (fun b _ h => h.elim) (fun b _ h => h)
  refine ⟨_, _, rfl, hle, VR.ptr (off := 0) (Env.bind_self ..), ?_⟩
  refine hS.plug hG hl (hu.mono (fun b _ h => h.elim)) hle (Nat.le_succ _) (hS.fresh1 _ _) (hS.top1 _ _) (F' := fun b => cut c 3 w w' b ≠ 0)
    ⟨_, f, L, B.mk' (B.log (by omega)) B.tx ?_ (B.tree (by omega)) rfl rfl rfl rfl g.ns⟩ (fun b hb => ?_)
  · refine ⟨fun _ => ⟨pp, lf, hle.blk a1, a2.upd hu id, a3, ?_, fun _ => ⟨hb, lv, rm, [], Env.bind_self .., HeapR.recol hH (fun b hb => cut_col hb), ?_, rfl, fun i x y e => by simp at e⟩⟩, fun _ => hne⟩
    · rw [cut_old hB.size (lt_of_block a2.2)]; exact a4
    · have := a2.1; simp; omega
  · rcases @cut_or w w' c 3 b with h1 | ⟨h2, h1⟩ | ⟨h2, _⟩
    · exact absurd h1 hb
    · exact .inl ((g.fc b).2 (by rw [← h1]; exact hb))
    · exact .inr h2

/-- The heap of the state. -/
theorem HpI.get {E : Env} {w : World} {c : Nat → Nat} {f : Int} {L : List Nat} {t : TxM} {h : HpM} (q : HpI E w c f L t h) (hh : h.hp ≠ 0) :
    ∃ pp lf hb lv rm P, E.blk h.pool = some (pp, (0, 0)) ∧ PoolAt w pp lf ∧ h.left ≤ lf ∧ c pp = 2 ∧ E.blk h.hp = some (hb, (0, 0)) ∧ HeapAt c 3 w hb pp lv rm P ∧ P.length + lf ≤ 256 ∧ PgsI E f L t h.pgs P := by
  obtain ⟨pp, lf, a1, a2, a3, a4, a5⟩ := q.1 (q.2 hh)
  obtain ⟨hb, lv, rm, P, b1, b2, b3, b4⟩ := a5 hh
  exact ⟨pp, lf, hb, lv, rm, P, a1, a2, a3, a4, b1, b2, b3, b4⟩

theorem pHpages_ok {args : List V} {s s' : SM} {v : V} (h : pHpages args s = some (v, s')) : Ans (IN TP hT N) 76 args s v s' := by
  unfold pHpages at h
  split at h <;> first | (cases h; done) | skip
  rename_i p o H nx pool left hp pgs t tr dt ky ns bd sm
  obtain ⟨h1, h⟩ := ck_eq h
  obtain ⟨h2, h⟩ := ck_eq h
  rw [fN_eq] at h
  cases h
  obtain ⟨rfl, hne⟩ := nm_ok h1
  obtain rfl : o = 0 := Nat.eq_of_beq_eq_true h2
  refine ans_read (fun {K E w A F c f0 L} hS g hA => ?_)
  obtain ⟨x, rfl, hx⟩ := args1 hA
  obtain ⟨pp, lf, hb, lv, rm, P, a1, a2, a3, a4, b1, b2, b3, b4⟩ := g.heap.get hne
  rw [ptr_at hx b1 rfl]
  refine (hpages_at b2).mono ?_
  rintro e w' ⟨rfl, rfl⟩
  refine ⟨_, rfl, ?_, Below.refl _ _⟩
  rw [llen_eq, ← b4.1]
  exact .int _ _

/-- The places of a page, from a slot on. -/
def plFrom (n : Nat) : List (Option Ver) → Nat → List (Nat × Nat)
  | [], _ => []
  | none :: S, k => plFrom n S (k + 1)
  | some _ :: S, k => (n, k) :: plFrom n S (k + 1)
theorem placeTo_from (n : Nat) : ∀ (S T : List (Option Ver)), placeTo n (S ++ T) (S ++ T).length = placeTo n (S ++ T) S.length ++ plFrom n T S.length
  | S, [] => by simp [plFrom]
  | S, x :: T => by
    have h := placeTo_from n (S ++ [x]) T
    rw [List.append_assoc, List.singleton_append] at h
    rw [h, List.length_append, List.length_singleton, placeTo_succ]
    have hx : (S ++ x :: T).getD S.length none = x := by rw [List.getD_eq_getElem?_getD]; simp
    rw [hx]
    cases x with
    | none => simp [plFrom]
    | some v => simp [plFrom]
theorem placeTo_all (n : Nat) (S : List (Option Ver)) : placeTo n S S.length = plFrom n S 0 := by
  have := placeTo_from n [] S
  simpa [placeTo] using this
theorem tidsM_ok {E : Env} {f : Int} {L : List Nat} {t : TxM} {p : Nat} : ∀ {l : PgM} {S : List (Option Ver)} {k : Nat} {r : List V}, tidsM p l k = some r → PgI E f L t l S → VRs E r (tids (plFrom p S k)) ∧ (r = [] → plFrom p S k = [])
  | [], S, k, r, h, hp => by
    cases h
    have : S = [] := List.eq_nil_of_length_eq_zero hp.1.symm
    subst this
    exact ⟨VRs.nil, fun _ => rfl⟩
  | x :: l, S, k, r, h, hp => by
    have h : fN (k + 1) (fun k' => ob (tidsM p l k') fun r => match x with | none => some r | some _ => some (.int .i64 (.ofNat p) :: .int .i64 (.ofNat k) :: r)) = some r := h
    rw [fN_eq] at h
    obtain ⟨q, hq, h⟩ := ob_eq h
    cases S with
    | nil => exact absurd hp.1 (by simp)
    | cons y S =>
      have h0 := hp.2 0 x y rfl rfl
      have hp' : PgI E f L t l S := ⟨by simpa using hp.1, fun i a b c d => hp.2 (i + 1) a b (by simpa using c) (by simpa using d)⟩
      obtain ⟨i1, i2⟩ := tidsM_ok hq hp'
      cases x with
      | none =>
        cases y with
        | none => cases h; exact ⟨i1, i2⟩
        | some v => exact h0.elim
      | some r0 =>
        cases y with
        | none => exact h0.elim
        | some v =>
          cases h
          refine ⟨?_, fun e => by cases e⟩
          have : tids (plFrom p (some v :: S) k) = Value.int .i64 (p : Int) :: .int .i64 (k : Int) :: tids (plFrom p S (k + 1)) := by simp [plFrom, tids]
          rw [this]
          exact .cons (.int _ _) (.cons (.int _ _) i1)

theorem pHpage_ok {args : List V} {s s' : SM} {v : V} (h : pHpage args s = some (v, s')) : Ans (IN TP hT N) 77 args s v s' := by
  unfold pHpage at h
  split at h <;> first | (cases h; done) | skip
  rename_i p o y H nx pool left hp pgs t tr dt ky ns bd sm
  obtain ⟨h1, h⟩ := ck_eq h
  obtain ⟨h2, h⟩ := ck_eq h
  obtain ⟨n, hn, h⟩ := ob_eq h
  obtain ⟨l, hl', h⟩ := ob_eq h
  rw [fN_eq] at h
  obtain ⟨r, hr, h⟩ := ob_eq h
  obtain ⟨rfl, hne⟩ := nm_ok h1
  obtain rfl : o = 0 := Nat.eq_of_beq_eq_true h2
  rw [lget_eq] at hl'
  intro K E w A hS hA
  obtain ⟨F, ⟨c, f, L, g⟩, hG, hl⟩ := hS.inv
  obtain ⟨x1, x2, rfl, hx, hy⟩ := args2 hA
  obtain rfl := nK_ok (k0 := .i64) hn hy
  obtain ⟨pp, lf, hb, lv, rm, P, a1, a2, a3, a4, b1, b2, b3, b4⟩ := g.heap.get hne
  rw [ptr_at hx b1 rfl]
  obtain ⟨x, hxp⟩ : ∃ x, P[n]? = some x := ⟨_, List.getElem?_eq_getElem (by rw [← b4.1]; exact (List.getElem?_eq_some_iff.1 hl').1)⟩
  have hpg := b4.2 n l x hl' hxp
  obtain ⟨i1, i2⟩ := tidsM_ok hr hpg
  refine (hplaces_at b2 (HeapAt.len b2) hxp).mono ?_
  rintro e w' ⟨W, rfl, ho, hB, hnil⟩
  rw [placeTo_all] at ho hnil
  cases r with
  | nil =>
    obtain ⟨_, h⟩ := ck_eq h
    cases h
    rw [hnil (i2 rfl)]
    exact ⟨_, E, rfl, .refl E, .nils, hS.below hB⟩
  | cons r0 r =>
    have h : fN (llen (r0 :: r) / 2) (fun n => newB (⟨H, nx, ⟨⟨pool, left, p, pgs⟩, t, tr, dt, ky, ns, bd, sm⟩⟩ : SM) (.grow 124 2 (r0 :: r)) (.sg nx 0 2 n)) = some (v, s') := h
    rw [fN_eq] at h
    obtain ⟨rfl, H', hH, rfl⟩ := newB_eq h
    have hlen : (r0 :: r).length / 2 = (plFrom n x.2 0).length := by rw [i1.1, tids_length]; omega
    rw [llen_eq, hlen]
    have hpos : 0 < (plFrom n x.2 0).length := by
      have h1 := i1.1
      rw [tids_length] at h1
      simp at h1; omega
    obtain ⟨E', q1, q2, q3⟩ := hS.row hB ho hpos i1 hH
    exact ⟨W, E', rfl, q1, q2, q3⟩
end
end X
end Go.Proofs.YtnkjnclpakfgnaaGreatDoor
namespace Go.Proofs.YtnkjnclpakfgnaaGreatDoor
namespace X
open Go.RowKit

theorem agg2 {E : Env} {a b : V} {X : Value} (h : VR E (.agg [a, b]) X) : ∃ x1 x2, X = .agg #[x1, x2] ∧ VR E a x1 ∧ VR E b x2 := by
  obtain ⟨L, rfl, h0⟩ := h.agg_inv
  clear h
  obtain ⟨x1, m, e1, p1, h⟩ := h0.head
  obtain ⟨x2, m, rfl, p2, h⟩ := h.head
  cases m with
  | nil => exact ⟨x1, x2, by rw [← Array.toArray_toList (xs := L), e1], p1, p2⟩
  | cons _ _ => exact absurd h.1 (by simp)

section
variable {TP : TreeP} {hT : TreeOk TP} {N : Int}
/-- What lies at a place. -/
theorem atM_ok {E : Env} {f : Int} {L : List Nat} {t : TxM} {pgs : List PgM} {P : List PgS} {p q : Nat} {l : PgM} {r : RV} (h : PgsI E f L t pgs P) (hl : pgs[p]? = some l) (hq : l[q]? = some (some r)) :
    ∃ x v, P[p]? = some x ∧ PgI E f L t l x.2 ∧ x.2[q]? = some (some v) ∧ VerI E f L t r v := by
  have hp : p < P.length := by rw [← h.1]; exact (List.getElem?_eq_some_iff.1 hl).1
  have hpg := h.2 p l P[p] hl (List.getElem?_eq_getElem hp)
  have hq2 : q < P[p].2.length := by rw [← hpg.1]; exact (List.getElem?_eq_some_iff.1 hq).1
  have hs := hpg.2 q _ P[p].2[q] hq (List.getElem?_eq_getElem hq2)
  cases ho : P[p].2[q] with
  | none => rw [ho] at hs; exact hs.elim
  | some v => exact ⟨P[p], v, List.getElem?_eq_getElem hp, hpg, by rw [List.getElem?_eq_getElem hq2, ho], by rw [ho] at hs; exact hs⟩

theorem leB_length (n x : Nat) : (leB n x).length = n := by simp
theorem rowB_length (l : List Int) : (rowB l).length = 1 + 8 * l.length := by
  unfold rowB
  rw [List.length_cons]
  have : ∀ l : List Int, (l.flatMap fun n => leB 8 (IntKind.u64.wrap n).toNat).length = 8 * l.length := fun l => by
    induction l with
    | nil => rfl
    | cons a l ih => rw [List.flatMap_cons, List.length_append, ih, leB_length, List.length_cons]; omega
  rw [this]; omega

theorem pGet_ok {args : List V} {s s' : SM} {v : V} (h : pGet args s = some (v, s')) : Ans (IN TP hT N) 55 args s v s' := by
  unfold pGet at h
  split at h <;> first | (cases h; done) | skip
  rename_i p o yp yq H nx pool left hp pgs lg fuel run own sa sb old hor tr dt ky ns bd sm
  obtain ⟨h1, h⟩ := ck_eq h
  obtain ⟨h2, h⟩ := ck_eq h
  obtain ⟨np, hnp, h⟩ := ob_eq h
  obtain ⟨nq, hnq, h⟩ := ob_eq h
  obtain ⟨r, hr, h⟩ := ob_eq h
  obtain ⟨l, hl0, hr⟩ := ob_eq hr
  rw [lget_eq] at hl0 hr
  obtain ⟨rfl, hne⟩ := nm_ok h1
  obtain rfl : o = 0 := Nat.eq_of_beq_eq_true h2
  cases r with
  | none => cases h
  | some r =>
    obtain ⟨row, mn, mx, vs⟩ := r
    simp only [fN_eq] at h
    obtain ⟨old1, ho1, h⟩ := ob_eq h
    obtain ⟨old2, ho2, h⟩ := ob_eq h
    cases h
    intro K E w A hS hA
    obtain ⟨F, ⟨c, f, L, g⟩, hG, hlv⟩ := hS.inv
    obtain ⟨x1, x2, rfl, hx, hy⟩ := args2 hA
    obtain ⟨y1, y2, rfl, hy1, hy2⟩ := agg2 hy
    obtain rfl := nK_ok (k0 := .i64) hnp hy1
    obtain rfl := nK_ok (k0 := .i64) hnq hy2
    obtain ⟨pp, lf, hb, lv, rm, P, a1, a2, a3, a4, b1, b2, b3, b4⟩ := g.heap.get hne
    rw [ptr_at hx b1 rfl]
    obtain ⟨x, u, hxp, _, hu, hvi⟩ := atM_ok b4 hl0 hr
    refine (hget_at b2 (HeapAt.len b2) ⟨x, hxp, hu⟩).mono ?_
    rintro e w' ⟨d, rfl, hBs, hdn, hB⟩
    obtain ⟨ints, hints, hdata⟩ := hvi.data
    obtain ⟨hB1, hB2, b, off, cap, rfl, hbl, hbc⟩ := hBs
    have hBs : Bs w' (.slice (some ⟨b, off, none⟩) u.data.length cap) u.data := ⟨hB1, hB2, b, off, cap, rfl, hbl, hbc⟩
    have hlen : u.data.length = 1 + 8 * vs.length := by
      have : vs.length = ints.length := by have := hints.1.1; simpa using this
      rw [hdata, rowB_length, this]
    have hnew : w.heap.size ≤ b := hdn b rfl
    -- four symbols and a name more
    have n0 : E.sy ns = none := g.ns ns (Nat.le_refl _)
    have n1 : (E.addS ns u.xmin).sy (ns + 1) = none := by rw [Env.addS_ne (by omega)]; exact g.ns _ (by show ns ≤ _; omega)
    have n2 : ((E.addS ns u.xmin).addS (ns + 1) u.xmax).sy (ns + 1 + 1) = none := by rw [Env.addS_ne (by omega), Env.addS_ne (by omega)]; exact g.ns _ (by show ns ≤ _; omega)
    have n3 : (((E.addS ns u.xmin).addS (ns + 1) u.xmax).addS (ns + 1 + 1) u.pg).sy (ns + 1 + 1 + 1) = none := by rw [Env.addS_ne (by omega), Env.addS_ne (by omega), Env.addS_ne (by omega)]; exact g.ns _ (by show ns ≤ _; omega)
    have l1 := Env.le_addS (n := (u.xmin : Int)) n0
    have l2 := l1.trans (Env.le_addS (n := (u.xmax : Int)) n1)
    have l3 := l2.trans (Env.le_addS (n := u.pg) n2)
    have l4 := l3.trans (Env.le_addS (n := u.sl) n3)
    obtain ⟨E4, hE4⟩ : ∃ E4, E4 = (((E.addS ns u.xmin).addS (ns + 1) u.xmax).addS (ns + 1 + 1) u.pg).addS (ns + 1 + 1 + 1) u.sl := ⟨_, rfl⟩
    rw [← hE4] at l4
    have y0 : E4.sy ns = some (u.xmin : Int) := by rw [hE4, Env.addS_ne (by omega), Env.addS_ne (by omega), Env.addS_ne (by omega), Env.addS_self]
    have y1 : E4.sy (ns + 1) = some (u.xmax : Int) := by rw [hE4, Env.addS_ne (by omega), Env.addS_ne (by omega), Env.addS_self]
    have y2 : E4.sy (ns + 1 + 1) = some u.pg := by rw [hE4, Env.addS_ne (by omega), Env.addS_self]
    have y3 : E4.sy (ns + 1 + 1 + 1) = some u.sl := by rw [hE4, Env.addS_self]
    have hblk : E4.blk = E.blk := by rw [hE4]; rfl
    have htop : E4.top = E.top := by rw [hE4]; rfl
    have l5 : E4.le (E4.bind nx b (off, cap)) := Env.le_bind (by rw [hblk]; exact hS.fresh nx (Nat.le_refl _)) (Nat.le_of_eq (by rw [htop]; exact hS.top))
    have hle := l4.trans l5
    have hself : (E4.bind nx b (off, cap)).blk nx = some (b, (off, cap)) := Env.bind_self ..
    have hsy : (E4.bind nx b (off, cap)).sy = E4.sy := rfl
    have hupd : Upd (fun _ => False) w w' := Upd.same hB
    have B := g.but hT 5 hle.sub hupd (fun b _ h => h.elim) (fun b _ h => h)
    have hvd : VR (E4.bind nx b (off, cap)) (.bs nx (1 + 8 * llen vs)) (.slice (some ⟨b, off, none⟩) u.data.length cap) := by
      rw [hlen, llen_eq]; exact .bs hself
    refine ⟨_, _, rfl, hle, VRs.tup (.cons (VRs.agg (.cons ?_ (.cons ?_ (.cons ?_ (.cons (.sym y2) (.cons (.sym y3) (.cons hvd .nil))))))) (.cons (.bool _) .nil)), ?_⟩
    · rw [hvi.row]; exact .int _ _
    · cases mn with
      | true => obtain ⟨_, e⟩ := hvi.mn1 rfl; exact .sym (hle.sy e)
      | false => exact .sym y0
    · cases mx with
      | zero => rw [hvi.mx0 rfl]; exact .int _ _
      | succ k =>
        cases k with
        | zero => obtain ⟨_, e⟩ := hvi.mx1 rfl; exact .sym (hle.sy e)
        | succ k =>
          have : k = 0 := by have := hvi.mx; simp only at this; omega
          subst this
          exact .sym y1
    · have hold : ∀ s ∈ old2, ∃ z, (E4.bind nx b (off, cap)).sy s = some z ∧ stt f L z = 2 := by
        have h1 : ∀ s ∈ old, ∃ z, (E4.bind nx b (off, cap)).sy s = some z ∧ stt f L z = 2 := fun s hs => by
          obtain ⟨z, e1, e2⟩ := g.tx.old s hs; exact ⟨z, hle.sy e1, e2⟩
        have h2 : ∀ s ∈ old1, ∃ z, (E4.bind nx b (off, cap)).sy s = some z ∧ stt f L z = 2 := fun s hs => by
          cases mn with
          | true => cases ho1; exact h1 s hs
          | false =>
            cases ho1
            rcases List.mem_cons.1 hs with rfl | hs
            · exact ⟨_, y0, hvi.mn0 rfl⟩
            · exact h1 s hs
        intro s hs
        unfold bq at ho2
        cases hb2 : Nat.beq mx 2 with
        | false => rw [hb2] at ho2; cases ho2; exact h2 s hs
        | true =>
          rw [hb2] at ho2; cases ho2
          rcases List.mem_cons.1 hs with rfl | hs
          · exact ⟨_, y1, (hvi.mx2 (Nat.eq_of_beq_eq_true hb2)).2⟩
          · exact h2 s hs
      have hz := hB.size
      have hcol : cut c 5 w w' b = 5 := by rw [cut_col hbl]; exact col_new hnew
      have hvI : ∀ (r : RV) (v : Ver), VerI (E4.bind nx b (off, cap)) f L ⟨lg, fuel, run, own, sa, sb, old, hor⟩ r v → VerI (E4.bind nx b (off, cap)) f L ⟨lg, fuel, run, own, sa, sb, old2, hor⟩ r v := fun r v q =>
        { row := q.row, mn1 := q.mn1, mn0 := q.mn0, mx0 := q.mx0, mx1 := q.mx1, mx2 := q.mx2, mx := q.mx, data := q.data }
      refine hS.plug hG hlv (hupd.mono (fun b _ h => h.elim)) hle (Nat.le_succ _) (fun id hid => ?_) ?_ (F' := fun b => cut c 5 w w' b ≠ 0)
        ⟨_, f, L, { fc := fun _ => Iff.rfl, out := B.out, log := B.log (by omega), tx := { lim := B.tx.lim, one := B.tx.one, fuel := B.tx.fuel, idle := B.tx.idle, runs := B.tx.runs, old := hold, hor := B.tx.hor },
                    heap := (B.heap (by omega) (by omega)).map (Env.le.refl _).sub rfl rfl rfl (fun P q => q.map hvI), tree := B.tree (by omega), data := fun z hz => ?_, keys := B.keys, tabs := B.tabs, ns := fun s hs => ?_, bd := B.bd, sm := B.sm }⟩ (fun b hb => ?_)
      · have hid : nx + 1 ≤ id := hid
        rw [Env.bind_ne (by omega), hblk]; exact hS.fresh id (by show nx ≤ id; omega)
      · show max E4.top (nx + 1) = nx + 1
        rw [htop, hS.top]; exact Nat.max_eq_right (Nat.le_succ _)
      · rcases List.mem_cons.1 hz with rfl | hz
        · refine ⟨b, off, cap, ints, hself, ?_, hints.mono hle.sub, hcol⟩
          rw [← hdata, ← hlen]; exact hBs
        · exact B.data z hz
      · have hs : ns + 1 + 1 + 1 + 1 ≤ s := hs
        rw [hsy, hE4, Env.addS_ne (by omega), Env.addS_ne (by omega), Env.addS_ne (by omega), Env.addS_ne (by omega)]
        exact g.ns s (by show ns ≤ s; omega)
      · rcases @cut_or w w' c 5 b with h1 | ⟨h2, h1⟩ | ⟨h2, _⟩
        · exact absurd h1 hb
        · exact .inl ((g.fc b).2 (by rw [← h1]; exact hb))
        · exact .inr h2
end
end X
end Go.Proofs.YtnkjnclpakfgnaaGreatDoor
