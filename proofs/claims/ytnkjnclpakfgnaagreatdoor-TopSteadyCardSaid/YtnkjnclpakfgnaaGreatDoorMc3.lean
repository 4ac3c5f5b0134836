/- The plugs of the heap: Stamp, Free. · The plug of the heap's Insert. · The plug of calc.Add. No conditions. -/
import Derived.Test.YtnkjnclpakfgnaaGreatDoorMc2
import Derived.Test.YtnkjnclpakfgnaaGreatDoorMa8
namespace Go.Proofs.YtnkjnclpakfgnaaGreatDoor
namespace X
open Go.RowKit

section
variable {E : Env} {f : Int} {L : List Nat} {t : TxM}
theorem PgI.set {l : PgM} {S : List (Option Ver)} (h : PgI E f L t l S) {i : Nat} {a : Option RV} {b : Option Ver} (hn : SlotI E f L t a b) : PgI E f L t (l.set i a) (S.set i b) := by
  refine ⟨by simp [h.1], fun j x y hx hy => ?_⟩
  rw [List.getElem?_set] at hx hy
  by_cases e : i = j
  · rw [if_pos e] at hx hy
    by_cases hl : j < l.length
    · rw [if_pos (by omega)] at hx
      rw [if_pos (by rw [← h.1]; omega)] at hy
      cases hx; cases hy; exact hn
    · rw [if_neg (by omega)] at hx; cases hx
  · rw [if_neg e] at hx hy; exact h.2 j x y hx hy
theorem PgI.take {l : PgM} {S : List (Option Ver)} (h : PgI E f L t l S) (m : Nat) : PgI E f L t (l.take m) (S.take m) := by
  refine ⟨by simp [h.1], fun j x y hx hy => ?_⟩
  rw [List.getElem?_take] at hx hy
  split at hx <;> first | (cases hx; done) | skip
  rename_i hj
  rw [if_pos hj] at hy
  exact h.2 j x y hx hy
theorem PgsI.set {l : List PgM} {P : List PgS} (h : PgsI E f L t l P) {p : Nat} {x : PgS} {lp' : PgM} {S' : List (Option Ver)} (hn : PgI E f L t lp' S') : PgsI E f L t (l.set p lp') (P.set p (x.1, S')) := by
  refine ⟨by simp [h.1], fun j u y hu hy => ?_⟩
  rw [List.getElem?_set] at hu hy
  by_cases e : p = j
  · rw [if_pos e] at hu hy
    by_cases hl : j < l.length
    · rw [if_pos (by omega)] at hu
      rw [if_pos (by rw [← h.1]; omega)] at hy
      cases hu; cases hy; exact hn
    · rw [if_neg (by omega)] at hu; cases hu
  · rw [if_neg e] at hu hy; exact h.2 j u y hu hy

theorem trimM_ok : ∀ {l r : PgM} {m : Nat}, trimM l = some r → m ≤ l.length → (∀ k, m ≤ k → k < l.length → l[k]? = some none) → (∀ j, m = j + 1 → ∃ u, l[j]? = some (some u)) → r = l.take m
  | [], r, m, h, hm, _, _ => by cases h; simp
  | x :: l, r, m, h, hm, h1, h2 => by
    obtain ⟨q, hq, h⟩ := ob_eq (o := trimM l) h
    cases m with
    | zero =>
      have h0 := h1 0 (Nat.le_refl _) (by simp)
      have hx : x = none := by simpa using h0
      subst hx
      have := trimM_ok (m := 0) hq (Nat.zero_le _) (fun k _ hk => by have := h1 (k + 1) (Nat.zero_le _) (by simpa using hk); simpa using this) (fun j e => by omega)
      rw [List.take_zero] at this
      subst this
      cases h; rfl
    | succ m =>
      have ih := trimM_ok (m := m) hq (by simpa using hm) (fun k hk hl => by have := h1 (k + 1) (by omega) (by simpa using hl); simpa using this) (fun j e => by
        obtain ⟨u, hu⟩ := h2 (j + 1) (by omega)
        exact ⟨u, by simpa using hu⟩)
      subst ih
      cases x with
      | some v => cases h; rfl
      | none =>
        cases m with
        | zero => obtain ⟨u, hu⟩ := h2 0 rfl; simp at hu
        | succ m =>
          cases l with
          | nil => simp at hm
          | cons y l =>
            have h : some ((none : Option RV) :: y :: l.take m) = some r := h
            cases h; rfl
end

section
variable {TP : TreeP} {hT : TreeOk TP} {N : Int}
theorem endsV_ok {E : Env} {a b : V} {x y : Value} (h : endsV a b = true) (ha : VR E a x) (hb : VR E b y) : ∃ p q : Int, x = .int .i64 p ∧ y = .int .i64 q ∧ FarOk p q := by
  unfold endsV at h
  split at h <;> first | (cases h; done) | skip
  rename_i k p k' q
  unfold bq at h
  cases h1 : Nat.beq (kno k) 3 with
  | false => rw [h1] at h; cases h
  | true =>
    rw [h1] at h
    cases h2 : Nat.beq (kno k') 3 with
    | false => rw [h2] at h; cases h
    | true =>
      rw [h2] at h
      cases h3 : Nat.blt p 65536 with
      | false => rw [h3] at h; cases h
      | true =>
        rw [h3] at h
        cases ha; cases hb
        rw [kno_inj (k' := .i64) h1, kno_inj (k' := .i64) h2]
        have h3 : p < 65536 := Nat.le_of_ble_eq_true h3
        have h4 : q < 65535 := Nat.le_of_ble_eq_true h
        exact ⟨_, _, rfl, rfl, .inr ⟨by simp, by simp; omega, by simp, by simp; omega⟩⟩

theorem GoodB.heap' {E : Env} {w : World} {c : Nat → Nat} {f : Int} {L : List Nat} {m : MM} (B : GoodB TP 3 N m E w c f L) {h' : HpM} (q : HpI E w c f L m.t h') (hns : ∀ s, m.ns ≤ s → E.sy s = none) (tree : TP E w c m.tr) :
    GoodI TP N { m with h := h' } E w (fun b => c b ≠ 0) c f L :=
  B.mk' (B.log (by omega)) B.tx q tree rfl rfl rfl rfl hns

theorem cut_F {w w' : World} {c : Nat → Nat} {k b : Nat} {F : Nat → Prop} (hF : ∀ b, F b ↔ c b ≠ 0) (hb : cut c k w w' b ≠ 0) : F b ∨ w.heap.size ≤ b := by
  rcases @cut_or w w' c k b with h1 | ⟨h2, h1⟩ | ⟨h2, _⟩
  · exact absurd h1 hb
  · exact .inl ((hF b).2 (by rw [← h1]; exact hb))
  · exact .inr h2

theorem pStamp_ok {args : List V} {s s' : SM} {v : V} (h : pStamp args s = some (v, s')) : Ans (IN TP hT N) 280 args s v s' := by
  unfold pStamp at h
  split at h <;> first | (cases h; done) | skip
  rename_i p o yp yq yx ya yb H nx pool left hp pgs lg fuel run own sa sb old hor tr dt ky ns bd sm
  obtain ⟨h1, h⟩ := ck_eq h
  obtain ⟨h2, h⟩ := ck_eq h
  obtain ⟨hr, h⟩ := ck_eq h
  obtain ⟨np, hnp, h⟩ := ob_eq h
  obtain ⟨nq, hnq, h⟩ := ob_eq h
  obtain ⟨xs, hxs, h⟩ := ob_eq h
  obtain ⟨h3, h⟩ := ck_eq h
  obtain ⟨h4, h⟩ := ck_eq h
  obtain ⟨pgs', hpg, h⟩ := ob_eq h
  cases h
  obtain ⟨l, hl0, hpg⟩ := ob_eq hpg
  obtain ⟨r, hr0, hpa⟩ := ob_eq hpg
  obtain ⟨r, hr1, hpb⟩ := ob_eq hpa
  clear hpg hpa
  subst hr1
  obtain ⟨l', hl', hpg⟩ := ob_eq hpb
  obtain ⟨rfl, _⟩ := lset_eq hl'
  obtain ⟨rfl, _⟩ := lset_eq hpg
  rw [lget_eq] at hl0 hr0
  obtain ⟨rfl, hne⟩ := nm_ok h1
  obtain rfl : o = 0 := Nat.eq_of_beq_eq_true h2
  obtain rfl : xs = own := Nat.eq_of_beq_eq_true h3
  subst hr
  intro K E w A hS hA
  obtain ⟨F, ⟨c, f, L, g⟩, hG, hlv⟩ := hS.inv
  obtain ⟨x1, M1, e1, p1, hA⟩ := hA.head
  obtain ⟨x2, M2, rfl, p2, hA⟩ := hA.head
  obtain ⟨x3, M3, rfl, p3, hA⟩ := hA.head
  obtain ⟨x4, M4, rfl, p4, hA⟩ := hA.head
  obtain rfl : M4 = [] := List.eq_nil_of_length_eq_zero hA.1.symm
  obtain rfl : A = #[x1, x2, x3, x4] := by rw [← Array.toArray_toList (xs := A), e1]
  obtain ⟨y1, y2, rfl, hy1, hy2⟩ := agg2 p2
  obtain rfl := nK_ok (k0 := .i64) hnp hy1
  obtain rfl := nK_ok (k0 := .i64) hnq hy2
  obtain ⟨n, rfl, hn⟩ := sU_ok hxs p3
  obtain ⟨z1, z2, rfl, hz1, hz2⟩ := agg2 p4
  obtain ⟨pg, sl, rfl, rfl, hfar⟩ := endsV_ok h4 hz1 hz2
  obtain ⟨pp, lf, hb, lv, rm, P, a1, a2, a3, a4, b1, b2, b3, b4⟩ := g.heap.get hne
  rw [ptr_at p1 b1 rfl]
  obtain ⟨x, u, hxp, hpi, hu, hvi⟩ := atM_ok b4 hl0 hr0
  obtain ⟨J, rfl, _, k1, _⟩ := g.tx.runs rfl
  rw [k1] at hn
  obtain rfl : f + (J.length : Int) = n := Option.some.inj hn
  have hone := g.tx.one; have hfu := g.tx.fuel; have hlim := g.tx.lim
  simp only [List.length_append, List.length_singleton] at hfu
  obtain ⟨xm, hxm⟩ : ∃ xm : Nat, f + (J.length : Int) = (xm : Int) := ⟨(f + J.length).toNat, by omega⟩
  rw [hxm]
  refine (hstamp_at (HeapR.recol b2 (c' := col c w.heap.size 3) (fun b hb => col_old hb)) hxp hu (by omega) hfar).mono ?_
  rintro e w' ⟨rfl, hH, hup⟩
  have hcx : c x.1 = 3 := (b2.pages x (List.mem_of_getElem? hxp)).2
  have B := g.but hT 3 (Env.le.refl E).sub hup (fun b _ e => by rw [e]; exact hcx) (fun b hb e => by rw [e] at hb; omega)
  refine ⟨_, E, rfl, .refl E, .int _ _, ?_⟩
  refine hS.plug hG hlv (hup.mono (fun b _ e => (g.fc b).2 (by rw [e]; omega))) (.refl E) (Nat.le_refl _) (fun id h => hS.fresh id h) hS.top (F' := fun b => cut c 3 w w' b ≠ 0)
    ⟨_, f, J ++ [1], B.heap' (h' := ⟨pool, left, p, _⟩) ?_ g.ns (B.tree (by omega))⟩ (fun b hb => cut_F g.fc hb)
  refine ⟨fun _ => ⟨pp, lf, a1, a2.upd hup (fun e => by rw [e] at a4; omega), a3, ?_, fun _ => ⟨hb, lv, rm, _, b1, HeapR.recol hH (fun b hb => cut_col hb), by simpa using b3, b4.set (hpi.set ?_)⟩⟩, fun _ => g.heap.2 hne⟩
  · rw [cut_old hup.size (lt_of_block a2.2)]; exact a4
  · exact { row := hvi.row, mn1 := hvi.mn1, mn0 := hvi.mn0, mx0 := fun e => (by cases e), mx1 := fun _ => ⟨rfl, by rw [k1, hxm]; rfl⟩, mx2 := fun e => (by cases e), mx := (by show (1 : Nat) ≤ 2; omega), data := hvi.data }

theorem pHfree_ok {args : List V} {s s' : SM} {v : V} (h : pHfree args s = some (v, s')) : Ans (IN TP hT N) 96 args s v s' := by
  unfold pHfree at h
  split at h <;> first | (cases h; done) | skip
  rename_i p o yp yq H nx pool left hp pgs t tr dt ky ns bd sm
  obtain ⟨h1, h⟩ := ck_eq h
  obtain ⟨h2, h⟩ := ck_eq h
  obtain ⟨np, hnp, h⟩ := ob_eq h
  obtain ⟨nq, hnq, h⟩ := ob_eq h
  obtain ⟨l, hl0, h⟩ := ob_eq h
  obtain ⟨r, hr0, ha⟩ := ob_eq h
  obtain ⟨r, hr1, hb⟩ := ob_eq ha
  clear h ha
  subst hr1
  obtain ⟨l', hl', h⟩ := ob_eq hb
  obtain ⟨l2, hl2, h⟩ := ob_eq h
  obtain ⟨pgs', hpg, h⟩ := ob_eq h
  cases h
  obtain ⟨rfl, _⟩ := lset_eq hl'
  obtain ⟨rfl, _⟩ := lset_eq hpg
  rw [lget_eq] at hl0 hr0
  obtain ⟨rfl, hne⟩ := nm_ok h1
  obtain rfl : o = 0 := Nat.eq_of_beq_eq_true h2
  intro K E w A hS hA
  obtain ⟨F, ⟨c, f, L, g⟩, hG, hlv⟩ := hS.inv
  obtain ⟨x1, x2, rfl, p1, p2⟩ := args2 hA
  obtain ⟨y1, y2, rfl, hy1, hy2⟩ := agg2 p2
  obtain rfl := nK_ok (k0 := .i64) hnp hy1
  obtain rfl := nK_ok (k0 := .i64) hnq hy2
  obtain ⟨pp, lf, hb, lv, rm, P, a1, a2, a3, a4, b1, b2, b3, b4⟩ := g.heap.get hne
  rw [ptr_at p1 b1 rfl]
  obtain ⟨x, u, hxp, hpi, hu, hvi⟩ := atM_ok b4 hl0 hr0
  refine (hfree_at (HeapR.recol b2 (c' := col c w.heap.size 3) (fun b hb => col_old hb)) hxp hu).mono ?_
  rintro e w' ⟨rfl, ⟨S', ⟨m, hm1, hm2, hm3, hm4⟩, hH⟩, hup⟩
  have hcx : c x.1 = 3 := (b2.pages x (List.mem_of_getElem? hxp)).2
  have hcr : c rm = 3 := b2.cr
  have B := g.but hT 3 (Env.le.refl E).sub hup (fun b _ e => by rcases e with e | e <;> rw [e] <;> assumption) (fun b hb e => by rcases e with e | e <;> rw [e] at hb <;> omega)
  have hpi' : PgI E f L t (l.set nq none) (x.2.set nq none) := hpi.set trivial
  have hnone : ∀ k : Nat, (x.2.set nq none)[k]? = some none → (l.set nq none)[k]? = some none := fun k hk => by
    have hlt := (List.getElem?_eq_some_iff.1 hk).1
    have h1 : k < (l.set nq none).length := by rw [hpi'.1]; exact hlt
    have h2 := hpi'.2 k _ _ (List.getElem?_eq_getElem h1) hk
    rw [List.getElem?_eq_getElem h1]
    cases hq : (l.set nq none)[k] with
    | none => rfl
    | some _ => rw [hq] at h2; exact h2.elim
  have hsome : ∀ (k : Nat) (z : Ver), (x.2.set nq none)[k]? = some (some z) → ∃ q, (l.set nq none)[k]? = some (some q) := fun k z hk => by
    have hlt := (List.getElem?_eq_some_iff.1 hk).1
    have h1 : k < (l.set nq none).length := by rw [hpi'.1]; exact hlt
    have h2 := hpi'.2 k _ _ (List.getElem?_eq_getElem h1) hk
    rw [List.getElem?_eq_getElem h1]
    cases hq : (l.set nq none)[k] with
    | none => rw [hq] at h2; exact h2.elim
    | some q => exact ⟨q, rfl⟩
  have hlen : (l.set nq none).length = x.2.length := by rw [hpi'.1]; simp
  have htr := trimM_ok (m := m) hl2 (by omega) (fun k h1 h2 => hnone k (hm2 k h1 (by omega))) (fun j e => by obtain ⟨z, hz⟩ := hm4 j e; exact hsome j z hz)
  refine ⟨_, E, rfl, .refl E, .int _ _, ?_⟩
  refine hS.plug hG hlv (hup.mono (fun b _ e => (g.fc b).2 (by rcases e with e | e <;> rw [e] <;> omega))) (.refl E) (Nat.le_refl _) (fun id h => hS.fresh id h) hS.top (F' := fun b => cut c 3 w w' b ≠ 0)
    ⟨_, f, L, B.heap' (h' := ⟨pool, left, p, _⟩) ?_ g.ns (B.tree (by omega))⟩ (fun b hb => cut_F g.fc hb)
  refine ⟨fun _ => ⟨pp, lf, a1, a2.upd hup (fun e => by rcases e with e | e <;> rw [e] at a4 <;> omega), a3, ?_, fun _ => ⟨hb, lv, rm, _, b1, HeapR.recol hH (fun b hb => cut_col hb), by simpa using b3, b4.set ?_⟩⟩, fun _ => g.heap.2 hne⟩
  · rw [cut_old hup.size (lt_of_block a2.2)]; exact a4
  · rw [htr, hm3]; exact hpi'.take m
end
end X
end Go.Proofs.YtnkjnclpakfgnaaGreatDoor
namespace Go.Proofs.YtnkjnclpakfgnaaGreatDoor
namespace X
open Go.RowKit

section
variable {E : Env} {f : Int} {L : List Nat} {t : TxM}
theorem VerI.len {r : RV} {v : Ver} (h : VerI E f L t r v) : v.data.length = 1 + 8 * r.vs.length := by
  obtain ⟨ns, h1, h2⟩ := h.data
  have : r.vs.length = ns.length := by have := h1.1.1; simpa using this
  rw [h2, rowB_length, this]
theorem PgI.tail {x : Option RV} {l : PgM} {y : Option Ver} {S : List (Option Ver)} (h : PgI E f L t (x :: l) (y :: S)) : SlotI E f L t x y ∧ PgI E f L t l S :=
  ⟨h.2 0 x y rfl rfl, by simpa using h.1, fun i a b c d => h.2 (i + 1) a b (by simpa using c) (by simpa using d)⟩
theorem usedM_ok : ∀ {l : PgM} {S : List (Option Ver)}, PgI E f L t l S → usedM l = 4 * S.length + used S
  | [], S, h => by
    have : S = [] := List.eq_nil_of_length_eq_zero h.1.symm
    subst this; rfl
  | x :: l, S, h => by
    cases S with
    | nil => exact absurd h.1 (by simp)
    | cons y S =>
      obtain ⟨h0, h1⟩ := h.tail
      have ih := usedM_ok h1
      cases x with
      | none =>
        cases y with
        | none =>
          show fN (usedM l + 4) (fun n => n) = _
          rw [fN_eq, ih, List.length_cons]
          show _ = 4 * (S.length + 1) + used S
          omega
        | some v => exact h0.elim
      | some r =>
        cases y with
        | none => exact h0.elim
        | some v =>
          show fN (usedM l + (35 + 8 * llen r.vs)) (fun n => n) = _
          rw [fN_eq, ih, llen_eq, List.length_cons]
          show _ = 4 * (S.length + 1) + (30 + v.data.length + used S)
          have := VerI.len h0
          omega
theorem gapM_ok : ∀ {l : PgM} {S : List (Option Ver)}, PgI E f L t l S → (gapM l = true ↔ freeS S < S.length) ∧ freeS S ≤ S.length
  | [], S, h => by
    have : S = [] := List.eq_nil_of_length_eq_zero h.1.symm
    subst this; simp [gapM, freeS]
  | x :: l, S, h => by
    cases S with
    | nil => exact absurd h.1 (by simp)
    | cons y S =>
      obtain ⟨h0, h1⟩ := h.tail
      obtain ⟨ih, ih2⟩ := gapM_ok h1
      cases x with
      | none =>
        cases y with
        | none =>
          have e : freeS (none :: S) = 0 := by simp [freeS, List.findIdx_cons]
          rw [e]
          exact ⟨⟨fun _ => by simp, fun _ => rfl⟩, Nat.zero_le _⟩
        | some v => exact h0.elim
      | some r =>
        cases y with
        | none => exact h0.elim
        | some v =>
          have e : freeS (some v :: S) = freeS S + 1 := by simp [freeS, List.findIdx_cons]
          rw [e, List.length_cons]
          refine ⟨?_, by omega⟩
          show gapM l = true ↔ _
          rw [ih]; omega
theorem fitsM_ok {n : Nat} {l : PgM} {S : List (Option Ver)} (h : PgI E f L t l S) : (fitsM n l = true ↔ (n : Int) ≤ roomS S) := by
  have h1 := usedM_ok h
  obtain ⟨h2, h3⟩ := gapM_ok h
  unfold fitsM bq roomS
  cases hg : gapM l with
  | true =>
    have := h2.1 hg
    rw [if_neg (by omega)]
    show Nat.ble (usedM l + n) 478 = true ↔ _
    rw [Nat.ble_eq, h1]; omega
  | false =>
    have : ¬ freeS S < S.length := fun e => by rw [h2.2 e] at hg; cases hg
    rw [if_pos (by omega)]
    show Nat.ble (usedM l + 4 + n) 478 = true ↔ _
    rw [Nat.ble_eq, h1]; omega
theorem slotM_ok {v : RV} {u : Ver} (hv : VerI E f L t v u) : ∀ {l : PgM} {S : List (Option Ver)} {k : Nat} {q : Nat} {l' : PgM}, slotM v l k = some (q, l') → PgI E f L t l S → q = k + freeS S ∧ PgI E f L t l' (insS S (freeS S) u)
  | [], S, k, q, l', h, hp => by
    have : S = [] := List.eq_nil_of_length_eq_zero hp.1.symm
    subst this
    cases h
    refine ⟨rfl, rfl, fun i x y a b => ?_⟩
    have b : [some u][i]? = some y := b
    cases i with
    | zero => cases a; cases b; exact hv
    | succ i => simp at a
  | x :: l, S, k, q, l', h, hp => by
    cases S with
    | nil => exact absurd hp.1 (by simp)
    | cons y S =>
      obtain ⟨h0, h1⟩ := hp.tail
      cases x with
      | none =>
        cases y with
        | some v => exact h0.elim
        | none =>
          cases h
          have e : freeS (none :: S) = 0 := by simp [freeS, List.findIdx_cons]
          rw [e]
          refine ⟨rfl, ?_⟩
          have e2 : insS (none :: S) 0 u = some u :: S := by simp [insS]
          rw [e2]
          exact ⟨by simpa using hp.1, fun i a b c d => by
            cases i with
            | zero => cases c; cases d; exact hv
            | succ i => exact hp.2 (i + 1) a b c d⟩
      | some r =>
        cases y with
        | none => exact h0.elim
        | some w =>
          have h : fN (k + 1) (fun k' => ob (slotM v l k') fun r' => some (r'.1, some r :: r'.2)) = some (q, l') := h
          rw [fN_eq] at h
          obtain ⟨⟨q1, l1⟩, hq, h⟩ := ob_eq h
          cases h
          obtain ⟨i1, i2⟩ := slotM_ok hv hq h1
          have e : freeS (some w :: S) = freeS S + 1 := by simp [freeS, List.findIdx_cons]
          rw [e]
          refine ⟨by rw [i1]; omega, ?_⟩
          have e2 : insS (some w :: S) (freeS S + 1) u = some w :: insS S (freeS S) u := by
            unfold insS
            by_cases h : freeS S = S.length
            · rw [if_pos (by simp [h]), if_pos h]; rfl
            · rw [if_neg (by simpa using h), if_neg h]; rfl
          rw [e2]
          exact ⟨by simp [i2.1], fun i a b c d => by
            cases i with
            | zero => cases c; cases d; exact h0
            | succ i => exact i2.2 i a b (by simpa using c) (by simpa using d)⟩
/-- The least page that has room, and what it holds then. -/
theorem pageM_ok {n : Nat} {v : RV} : ∀ {l : List PgM} {k : Nat} {r : Option (Nat × Nat × List PgM)}, pageM n v l k = some r →
    (r = none ∧ ∀ x ∈ l, fitsM n x = false) ∨ ∃ i q l' x x', r = some (k + i, q, l') ∧ l[i]? = some x ∧ fitsM n x = true ∧ (∀ j y, j < i → l[j]? = some y → fitsM n y = false) ∧ slotM v x 0 = some (q, x') ∧ l' = l.set i x'
  | [], k, r, h => by cases h; exact .inl ⟨rfl, fun x h => by cases h⟩
  | x :: l, k, r, h => by
    have h : bq (fitsM n x) (fN (k + 1) fun k' => ob (pageM n v l k') fun r => match r with | none => some none | some ⟨p, q, l'⟩ => some (some (p, q, x :: l'))) (ob (slotM v x 0) fun r => some (some (k, r.1, r.2 :: l))) = some r := h
    unfold bq at h
    cases hf : fitsM n x with
    | true =>
      rw [hf] at h
      obtain ⟨⟨q, x'⟩, hs, h⟩ := ob_eq h
      cases h
      exact .inr ⟨0, q, _, x, x', rfl, rfl, hf, fun j y hj => by omega, hs, rfl⟩
    | false =>
      rw [hf] at h
      dsimp only at h
      rw [fN_eq] at h
      obtain ⟨r', hr, h⟩ := ob_eq h
      rcases pageM_ok hr with ⟨rfl, h1⟩ | ⟨i, q, l', y, y', rfl, h1, h2, h3, h4, h5⟩
      · cases h
        refine .inl ⟨rfl, fun z hz => ?_⟩
        rcases List.mem_cons.1 hz with rfl | hz
        · exact hf
        · exact h1 z hz
      · cases h
        refine .inr ⟨i + 1, q, _, y, y', by rw [show k + 1 + i = k + (i + 1) by omega], by simpa using h1, h2, fun j z hj hz => ?_, h4, by rw [h5]; rfl⟩
        cases j with
        | zero => cases hz; exact hf
        | succ j => exact h3 j z (by omega) (by simpa using hz)
end

section
variable {TP : TreeP} {hT : TreeOk TP} {N : Int}
theorem lkp_mem {α : Type} {k : Nat} {x : α} : ∀ {l : List (Nat × α)}, lkp k l = some x → (k, x) ∈ l
  | [], h => by cases h
  | y :: l, h => by
    have h : (Nat.beq y.1 k).rec (lkp k l) (some y.2) = some x := h
    cases hb : Nat.beq y.1 k with
    | true =>
      rw [hb] at h
      have := Nat.eq_of_beq_eq_true hb
      cases h
      rw [← this]; exact .head _
    | false => rw [hb] at h; exact .tail _ (lkp_mem h)
theorem mI_ok {E : Env} {v : V} {x : Value} (h : mI v = true) (hv : VR E v x) : x = .int .i64 (-1) := by
  unfold mI at h
  split at h <;> first | (cases h; done) | skip
  unfold bq at h
  rename_i k n
  cases h1 : Nat.beq (kno k) 3 with
  | false => rw [h1] at h; cases h
  | true =>
    rw [h1] at h
    have := Nat.eq_of_beq_eq_true h
    subst this
    cases hv
    rw [kno_inj (k' := .i64) h1]; rfl
theorem rowB_lt (l : List Int) : ∀ y ∈ rowB l, y < 256 := by
  intro y hy
  unfold rowB at hy
  rcases List.mem_cons.1 hy with rfl | hy
  · omega
  · obtain ⟨n, _, hn⟩ := List.mem_flatMap.1 hy
    exact leB_lt _ _ y hn
theorem append_page {E : Env} {f : Int} {L : List Nat} {t : TxM} {l : List PgM} {P : List PgS} (h : PgsI E f L t l P) {b : Nat} {r : RV} {u : Ver} (hv : VerI E f L t r u) : PgsI E f L t (l ++ [[some r]]) (P ++ [(b, [some u])]) := by
  refine ⟨by simp [h.1], fun i x y hx hy => ?_⟩
  by_cases hl : i < l.length
  · rw [List.getElem?_append_left hl] at hx
    rw [List.getElem?_append_left (by rw [← h.1]; exact hl)] at hy
    exact h.2 i x y hx hy
  · rw [List.getElem?_append_right (by omega)] at hx
    rw [List.getElem?_append_right (by rw [← h.1]; omega), ← h.1] at hy
    cases hi : i - l.length with
    | zero =>
      rw [hi] at hx hy; cases hx; cases hy
      exact ⟨rfl, fun j x y a b => by
        cases j with
        | zero => cases a; cases b; exact hv
        | succ j => simp at a⟩
    | succ j => rw [hi] at hx; simp at hx

theorem pIns_ok {args : List V} {s s' : SM} {v : V} (h : pIns args s = some (v, s')) : Ans (IN TP hT N) 328 args s v s' := by
  unfold pIns at h
  split at h <;> first | (cases h; done) | skip
  rename_i p o yr yx yz ya yb d len H nx pool left hp pgs lg fuel run own sa sb old hor tr dt ky ns bd sm
  obtain ⟨h1, h⟩ := ck_eq h
  obtain ⟨h2, h⟩ := ck_eq h
  obtain ⟨hr, h⟩ := ck_eq h
  obtain ⟨row, hrow, h⟩ := ob_eq h
  obtain ⟨xs, hxs, h⟩ := ob_eq h
  obtain ⟨z, hz, h⟩ := ob_eq h
  obtain ⟨h3, h⟩ := ck_eq h
  obtain ⟨h4, h⟩ := ck_eq h
  obtain ⟨h5, h⟩ := ck_eq h
  obtain ⟨h6, h⟩ := ck_eq h
  obtain ⟨h7, h⟩ := ck_eq h
  obtain ⟨vs, hvs, h⟩ := ob_eq h
  rw [fN_eq] at h
  obtain ⟨h8, h⟩ := ck_eq h
  obtain ⟨h9, h⟩ := ck_eq h
  rw [fN_eq] at h
  obtain ⟨r, hr0, h⟩ := ob_eq h
  obtain ⟨rfl, hne⟩ := nm_ok h1
  obtain rfl : o = 0 := Nat.eq_of_beq_eq_true h2
  obtain rfl : xs = own := Nat.eq_of_beq_eq_true h3
  obtain rfl : z = 0 := Nat.eq_of_beq_eq_true h4
  obtain rfl : len = 1 + 8 * llen vs := Nat.eq_of_beq_eq_true h8
  have h7 : row < 1000000 := Nat.le_of_ble_eq_true h7
  have h9 : 1 + 8 * llen vs < 200 := Nat.le_of_ble_eq_true h9
  rw [llen_eq] at h9
  subst hr
  intro K E w A hS hA
  obtain ⟨F, ⟨c, f, L, g⟩, hG, hlv⟩ := hS.inv
  obtain ⟨x1, x2, rfl, p1, p2⟩ := args2 hA
  obtain ⟨t1, t2, t3, t4, t5, t6, rfl, q1, q2, q3, q4, q5, q6⟩ := agg6 p2
  obtain rfl := nK_ok (k0 := .u64) hrow q1
  obtain rfl := nK_ok (k0 := .u64) hz q3
  obtain rfl := mI_ok h5 q4
  obtain rfl := mI_ok h6 q5
  obtain ⟨n, rfl, hn⟩ := sU_ok hxs q2
  obtain ⟨db, doff, dcap, ints, e1, hBs, hints, hc5⟩ := g.data _ (lkp_mem hvs)
  have ht6 : t6 = .slice (some ⟨db, doff, none⟩) (1 + 8 * vs.length) dcap := by
    cases q6 with
    | bs hb => rw [e1] at hb; cases hb; rw [llen_eq]
  subst ht6
  obtain ⟨pp, lf, hb, lv, rm, P, a1, a2, a3, a4, b1, b2, b3, b4⟩ := g.heap.get hne
  rw [ptr_at p1 b1 rfl]
  obtain ⟨J, hJ, _, k1, _⟩ := g.tx.runs rfl
  rw [k1] at hn
  obtain rfl : f + (J.length : Int) = n := Option.some.inj hn
  have hone := g.tx.one; have hfu := g.tx.fuel; have hlim := g.tx.lim
  have hJl : L.length = J.length + 1 := by rw [hJ]; simp
  simp only at hfu
  obtain ⟨xm, hxm⟩ : ∃ xm : Nat, f + (J.length : Int) = (xm : Int) := ⟨(f + J.length).toNat, by omega⟩
  rw [hxm]
  have hil : ints.length = vs.length := by have := hints.1.1; simpa using this.symm
  obtain ⟨u, hu⟩ : ∃ u : Ver, u = ⟨row, xm, 0, -1, -1, rowB ints⟩ := ⟨_, rfl⟩
  have hul : u.data.length = 1 + 8 * vs.length := by rw [hu]; show (rowB ints).length = _; rw [rowB_length, hil]
  have hok : VerOk u := by
    rw [hu]
    refine ⟨by show row ≤ _; omega, by show xm ≤ _; omega, Nat.zero_le _, .inl ⟨rfl, rfl⟩, ?_, rowB_lt ints, ?_⟩
    · show (rowB ints).length ≤ 200
      rw [rowB_length, hil]; omega
    · show 1 ≤ (rowB ints).length
      rw [rowB_length]; omega
  have hvT : (Value.agg #[.int .u64 ((row : Nat) : Int), .int .u64 (xm : Int), .int .u64 ((0 : Nat) : Int), .int .i64 (-1), .int .i64 (-1), .slice (some ⟨db, doff, none⟩) (1 + 8 * vs.length) dcap]) = verT u (.slice (some ⟨db, doff, none⟩) (1 + 8 * vs.length) dcap) := by rw [hu]; rfl
  have hBu : Bs w (.slice (some ⟨db, doff, none⟩) (1 + 8 * vs.length) dcap) u.data := by rw [hu]; exact hBs
  have hvi : ∀ E', E.sub E' → VerI E' f L ⟨lg, fuel, true, xs, sa, sb, old, hor⟩ ⟨row, true, 0, vs⟩ u := fun E' hs => by
    rw [hu]
    exact { row := rfl, mn1 := fun _ => ⟨rfl, hs.sy (by rw [k1, hxm])⟩, mn0 := fun e => (by cases e), mx0 := fun _ => rfl, mx1 := fun e => (by cases e), mx2 := fun e => (by cases e), mx := Nat.zero_le _, data := ⟨ints, hints.mono hs, rfl⟩ }
  rw [hvT]
  have hfit : ∀ (j : Nat) (y : PgM) (x : PgS), pgs[j]? = some y → P[j]? = some x → (fitsM (1 + 8 * vs.length) y = true ↔ (u.data.length : Int) ≤ roomS x.2) := fun j y x hy hx => by
    rw [fitsM_ok (b4.2 j y x hy hx), hul]
  rw [llen_eq] at hr0
  rcases pageM_ok hr0 with ⟨rfl, hno⟩ | ⟨i, q, l', y, y', rfl, i1, i2, i3, i4, i5⟩
  · obtain ⟨hleft, h⟩ := ck_eq h
    rw [fN_eq, fN_eq] at h
    obtain ⟨pgs', hpg, h⟩ := ob_eq h
    rw [lapp_eq] at hpg
    cases hpg
    cases h
    have hleft : 0 < left := Nat.le_of_ble_eq_true hleft
    have hfull : ∀ x ∈ P, roomS x.2 < u.data.length := fun x hx => by
      obtain ⟨j, hj⟩ := List.mem_iff_getElem?.1 hx
      have hjl : j < pgs.length := by rw [b4.1]; exact (List.getElem?_eq_some_iff.1 hj).1
      have h1 := hno _ (List.getElem_mem hjl)
      have h2 := hfit j _ x (List.getElem?_eq_getElem hjl) hj
      rw [h1] at h2
      have : ¬ (u.data.length : Int) ≤ roomS x.2 := fun e => by have := h2.2 e; cases this
      omega
    have a3 : left ≤ lf := a3
    refine (hinsert_new b2 a2 hok hBu hfull (by omega) (by omega) b3 (fun b hb e => ?_)).mono ?_
    · obtain rfl : db = b := Option.some.inj hb
      have hc5 : c db = 5 := hc5
      rcases e with e | e | e
      · have := congrArg c e; omega
      · have := congrArg c e; have := b2.ch; omega
      · have := b2.cl _ e; omega
    · rintro e w' ⟨n, i, P', lv', lf', rfl, hput, hH, hP, hup⟩
      rcases hput with ⟨x, q1, q2, q3, _⟩ | ⟨_, rfl, rfl, hlf, b, rfl⟩
      · have := hfull x (List.mem_of_getElem? q1); omega
      have B := g.but2 hT 3 (Env.le.refl E).sub hup (fun b _ e => by
        rcases e with e | e
        · exact .inl e
        · exact .inr ⟨by rw [e]; exact a4, rfl⟩) (fun b hb e => by
        rcases e with e | e
        · omega
        · rw [e] at hb; omega)
      refine ⟨_, E, rfl, .refl E, VRs.tup (.cons (VRs.agg (.cons ?_ (.cons (.int _ _) .nil))) (.cons (.int _ _) .nil)), ?_⟩
      · rw [llen_eq, b4.1]; exact .int _ _
      refine hS.plug hG hlv (hup.mono (fun b _ e => (g.fc b).2 (by
        rcases e with e | e
        · omega
        · rw [e]; omega))) (.refl E) (Nat.le_refl _) (fun id h => hS.fresh id h) hS.top (F' := fun b => cut c 3 w w' b ≠ 0)
        ⟨_, f, L, B.heap' (h' := ⟨pool, left - 1, p, _⟩) ?_ g.ns (B.tree (by omega))⟩ (fun b hb => cut_F g.fc hb)
      refine ⟨fun _ => ⟨pp, lf', a1, hP, by show left - 1 ≤ lf'; omega, ?_, fun _ => ⟨hb, lv', rm, _, b1, HeapR.recol hH (fun b hb => cut_col hb), ?_, append_page b4 (hvi E (Env.le.refl E).sub)⟩⟩, fun _ => g.heap.2 hne⟩
      · rw [cut_old hup.size (lt_of_block a2.2)]; exact a4
      · simp only [List.length_append, List.length_singleton]; omega
  · cases h
    obtain ⟨x, hx⟩ : ∃ x, P[i]? = some x := ⟨_, List.getElem?_eq_getElem (by rw [← b4.1]; exact (List.getElem?_eq_some_iff.1 i1).1)⟩
    have hxf := (hfit i y x i1 hx).1 i2
    refine (hinsert_old (HeapR.recol b2 (c' := col c w.heap.size 3) (fun b hb => col_old hb)) a2 hok hBu ⟨x, List.mem_of_getElem? hx, hxf⟩ (by rw [col_old (lt_of_block a2.2)]; omega)).mono ?_
    rintro e w' ⟨n, i', P', rfl, hput, hH, hP, hup⟩
    rcases hput with ⟨x', r1, r2, r3, r4, r5, _⟩ | ⟨hall, _⟩
    rotate_left
    · have := hall x (List.mem_of_getElem? hx); omega
    have hni : n = i := by
      rcases Nat.lt_trichotomy n i with h1 | h1 | h1
      · have hjl : n < pgs.length := by rw [b4.1]; exact (List.getElem?_eq_some_iff.1 r1).1
        have h2 := i3 n _ h1 (List.getElem?_eq_getElem hjl)
        have h3 := (hfit n _ x' (List.getElem?_eq_getElem hjl) r1).2 r3
        rw [h2] at h3; cases h3
      · exact h1
      · have := r4 i x h1 hx; omega
    subst hni
    rw [hx] at r1; cases r1
    have hcb : ∀ b, c b ≠ 0 → col c w.heap.size 3 b = c b := fun b hb => col_old (Nat.lt_of_not_le fun x => hb (g.out b x))
    have B := g.but hT 3 (Env.le.refl E).sub hup (fun b hb e => by rw [hcb b hb] at e; exact e) (fun b hb e => by rw [hcb b (by omega)] at e; omega)
    obtain ⟨s1, s2⟩ := slotM_ok (hvi E (Env.le.refl E).sub) i4 (b4.2 n y x i1 hx)
    refine ⟨_, E, rfl, .refl E, VRs.tup (.cons (VRs.agg (.cons ?_ (.cons ?_ .nil))) (.cons (.int _ _) .nil)), ?_⟩
    · rw [Nat.zero_add]; exact .int _ _
    · rw [s1, r2, Nat.zero_add]; exact .int _ _
    refine hS.plug hG hlv (hup.mono (fun b hb e => (g.fc b).2 (by rw [col_old hb] at e; omega))) (.refl E) (Nat.le_refl _) (fun id h => hS.fresh id h) hS.top (F' := fun b => cut c 3 w w' b ≠ 0)
      ⟨_, f, L, B.heap' (h' := ⟨pool, left, p, _⟩) ?_ g.ns (B.tree (by omega))⟩ (fun b hb => cut_F g.fc hb)
    refine ⟨fun _ => ⟨pp, lf, a1, hP, a3, ?_, fun _ => ⟨hb, lv, rm, _, b1, HeapR.recol hH (fun b hb => cut_col hb), ?_, ?_⟩⟩, fun _ => g.heap.2 hne⟩
    · rw [cut_old hup.size (lt_of_block a2.2)]; exact a4
    · rw [r5, List.length_set]; exact b3
    · rw [r5, i5, r2]; exact b4.set s2
end
end X
end Go.Proofs.YtnkjnclpakfgnaaGreatDoor
namespace Go.Proofs.YtnkjnclpakfgnaaGreatDoor
namespace X
open Go.RowKit

section
variable {TP : TreeP} {hT : TreeOk TP} {N : Int}
theorem bdV_ok {E : Env} {bd : List (Nat × Nat)} {a : V} {x : Nat} {A : Value} (h : bdV bd a = some x) (hi : isI a = true) (ha : VR E a A) (hb : ∀ z ∈ bd, ∃ n, E.sy z.1 = some n ∧ -(z.2 : Int) ≤ n ∧ n ≤ z.2) :
    ∃ n : Int, A = .int .i64 n ∧ -(x : Int) ≤ n ∧ n ≤ x := by
  obtain ⟨n, rfl⟩ := isI_ok hi ha
  refine ⟨n, rfl, ?_⟩
  unfold bdV at h
  split at h <;> first | (cases h; done) | skip
  · rw [fN_eq] at h
    cases h; cases ha
    exact ⟨by simp, by simp⟩
  · rw [fN_eq] at h
    cases h; cases ha
    exact ⟨by rw [Int.negSucc_eq]; omega, by rw [Int.negSucc_eq]; omega⟩
  · obtain ⟨m, h1, h2, h3⟩ := hb _ (lkp_mem h)
    cases ha with
    | sym ha =>
      rw [ha] at h1; cases h1
      exact ⟨h2, h3⟩

theorem VR.int_det {E : Env} {v : V} {k : IntKind} {a b : Int} (h : VR E v (.int k a)) (h' : VR E v (.int k b)) (hi : isI v = true) : a = b := by
  unfold isI at hi
  split at hi <;> first | (cases hi; done) | skip
  · cases h; cases h'; rfl
  · cases h with | sym h => cases h' with | sym h' => rw [h] at h'; cases h'; rfl
theorem eqvV_eq {a b : V} (h : eqvV a b = true) : a = b := by
  unfold eqvV bq at h
  split at h <;> first | (cases h; done) | skip
  · rename_i k n k' m
    cases hk : Nat.beq (kno k) (kno k') with
    | false => rw [hk] at h; cases h
    | true =>
      rw [hk] at h
      dsimp only at h
      rw [ieq_eq] at h
      rw [kno_inj hk, of_decide_eq_true h]
  · rename_i k n k' m
    cases hk : Nat.beq (kno k) (kno k') with
    | false => rw [hk] at h; cases h
    | true =>
      rw [hk] at h
      rw [kno_inj hk, Nat.eq_of_beq_eq_true h]
theorem sumM_ok {a b : V} {q : Nat} : ∀ {l : List (Nat × V × V)}, sumM a b l = some q → (q, a, b) ∈ l
  | [], h => by cases h
  | (p, x, y) :: l, h => by
    have h : bq (bq (eqvV x a) false (eqvV y b)) (sumM a b l) (some p) = some q := h
    unfold bq at h
    cases h1 : eqvV x a with
    | false => rw [h1] at h; exact .tail _ (sumM_ok h)
    | true =>
      rw [h1] at h
      dsimp only at h
      cases h2 : eqvV y b with
      | false => rw [h2] at h; exact .tail _ (sumM_ok h)
      | true =>
        rw [h2] at h
        rw [← eqvV_eq h1, ← eqvV_eq h2]
        cases h; exact .head _
theorem pAdd_ok {args : List V} {s s' : SM} {v : V} (h : pAdd args s = some (v, s')) : Ans (IN TP hT N) 315 args s v s' := by
  unfold pAdd at h
  split at h <;> first | (cases h; done) | skip
  rename_i a b H nx h0 t tr dt ky ns bd sm
  obtain ⟨ia, h⟩ := ck_eq h
  obtain ⟨ib, h⟩ := ck_eq h
  obtain ⟨x, hx, h⟩ := ob_eq h
  obtain ⟨y, hy, h⟩ := ob_eq h
  obtain ⟨hlt, h⟩ := ck_eq h
  have hlt : x + y < 2305843009213693952 := Nat.le_of_ble_eq_true hlt
  intro K E w A hS hA
  obtain ⟨F, ⟨c, f, L, g⟩, hG, hl⟩ := hS.inv
  obtain ⟨x1, x2, rfl, p1, p2⟩ := args2 hA
  obtain ⟨n, rfl, n1, n2⟩ := bdV_ok hx ia p1 g.bd
  obtain ⟨m, rfl, m1, m2⟩ := bdV_ok hy ib p2 g.bd
  refine (add_at n m w (by omega) (by omega) (by omega) (by omega)).mono ?_
  rintro e w' ⟨rfl, q, rfl⟩
  have sym : (fN (x + y) fun q => fN (ns + 1) fun n' => some (V.tup [.sym .i64 ns, z0], (⟨H, nx, ⟨h0, t, tr, dt, ky, n', (ns, q) :: bd, (ns, a, b) :: sm⟩⟩ : SM))) = some (v, s') →
      ∃ W E', Ending.returned (.tuple #[.int .i64 (n + m), .int .i64 0]) = .returned W ∧ E.le E' ∧ VR E' v W ∧ Sim (IN TP hT N) K E' s'.H s'.nx s'.m (w.drewN q) := fun h => by
    rw [fN_eq, fN_eq] at h
    cases h
    have hle := Env.le_addS (n := n + m) (g.ns ns (Nat.le_refl _))
    have hself : (E.addS ns (n + m)).sy ns = some (n + m) := Env.addS_self ..
    have hu : Upd (fun _ => False) w (w.drewN q) := Upd.of_drewN q
    have k := g.keepN hT (ns + 1) hle.sub (fun s hs => by rw [Env.addS_ne (by omega)]; exact g.ns s (by show ns ≤ s; omega)) hu (fun b _ h => h)
    refine ⟨_, _, rfl, hle, VRs.tup (.cons (.sym hself) (.cons (.int _ _) .nil)), ?_⟩
    refine hS.plug hG hl (hu.mono (fun b _ h => h.elim)) hle (Nat.le_refl _) (fun id h => hS.fresh id h) hS.top (F' := F)
      ⟨c, f, L, { fc := k.fc, out := k.out, log := k.log, tx := k.tx, heap := k.heap, tree := k.tree, data := k.data, keys := k.keys, tabs := k.tabs, ns := k.ns, bd := fun z hz => ?_, sm := fun z hz => ?_ }⟩ (fun b hb => .inl hb)
    · rcases List.mem_cons.1 hz with rfl | hz
      · exact ⟨_, hself, by simp; omega, by simp; omega⟩
      · exact k.bd z hz
    · rcases List.mem_cons.1 hz with rfl | hz
      · exact ⟨n, m, p1.mono hle, p2.mono hle, hself⟩
      · exact k.sm z hz
  split at h
  · rename_i k1 i1 k2 i2
    rw [fI_eq] at h
    cases h
    cases p1; cases p2
    exact ⟨_, E, rfl, .refl E, VRs.tup (.cons (.int _ _) (.cons (.int _ _) .nil)), hS.below below_drewN⟩
  · split at h
    · rename_i q1 hq1
      cases h
      obtain ⟨a', b', v1, v2, v3⟩ := g.sm _ (sumM_ok hq1)
      have e1 : a' = n := by
        have := VR.int_det v1 p1 (by simpa using ia)
        exact this
      have e2 : b' = m := VR.int_det v2 p2 (by simpa using ib)
      subst e1 e2
      exact ⟨_, E, rfl, .refl E, VRs.tup (.cons (.sym v3) (.cons (.int _ _) .nil)), hS.below below_drewN⟩
    · exact sym h

theorem libP_ans {f : Nat} {args : List V} {s : SM} {v : V} (h : libP f args = some v) : Ans (IN TP hT N) f args s v s := by
  intro K E w A hS hA
  exact libP_ok h (fun {m E w F} q => by obtain ⟨c, f, L, g⟩ := q; exact g.tabs.1.1) hS hA
end
end X
end Go.Proofs.YtnkjnclpakfgnaaGreatDoor
