/- The executor, 12: frames, regions in the order of the text, code. · The executor, 13: code and calls. · The executor, 14: regions that draw their order: the run in the text's order, and what it must show. · The executor, 15: regions that draw their order: the run. No conditions. -/
import Derived.Test.YtnkjnclpakfgnaaGreatDoorMa4
namespace Go.Proofs.YtnkjnclpakfgnaaGreatDoor
namespace X

/-! ## frames -/
abbrev Ls := List (Nat × V)
noncomputable def lk (t : Nat) (l : Ls) (k : Option V) : Option V := l.rec k (fun x _ ih => (Nat.beq x.1 t).rec ih (some x.2))
theorem lk_cons (t : Nat) (x : Nat × V) (l : Ls) (k : Option V) : lk t (x :: l) k = if x.1 = t then some x.2 else lk t l k := by
  show Bool.rec (motive := fun _ => Option V) (lk t l k) (some x.2) (Nat.beq x.1 t) = _
  cases h : Nat.beq x.1 t with
  | true => rw [if_pos (Nat.eq_of_beq_eq_true h)]
  | false => rw [if_neg (fun e => by rw [e, Nat.beq_refl] at h; cases h)]
theorem lk_app (t : Nat) : ∀ (R L : Ls), lk t R (lk t L none) = lk t (R ++ L) none
  | [], _ => rfl
  | x :: R, L => by rw [List.cons_append, lk_cons, lk_cons, lk_app t R L]

/-- Another value for a local. -/
noncomputable def lup (t : Nat) (v : V) (l : Ls) : Option Ls := l.rec (some [(t, v)]) (fun x r ih => (Nat.beq x.1 t).rec (ob ih fun r => some (x :: r)) (some ((t, v) :: r)))
theorem lup_ok {t : Nat} {v : V} : ∀ {l r : Ls}, lup t v l = some r → ∀ j, lk j r none = if t = j then some v else lk j l none
  | [], r, h, j => by cases h; rw [lk_cons]
  | x :: l, r, h, j => by
    change Bool.rec (motive := fun _ => Option Ls) (ob (lup t v l) fun r => some (x :: r)) (some ((t, v) :: l)) (Nat.beq x.1 t) = some r at h
    cases hx : Nat.beq x.1 t with
    | true =>
      rw [hx] at h; cases h
      have := Nat.eq_of_beq_eq_true hx
      rw [lk_cons, lk_cons]
      dsimp only
      by_cases hj : t = j
      · rw [if_pos hj, if_pos hj]
      · rw [if_neg hj, if_neg hj, if_neg (by rw [this]; exact hj)]
    | false =>
      rw [hx] at h
      obtain ⟨r', hr', h⟩ := ob_eq h
      cases h
      have hne : x.1 ≠ t := fun e => by rw [e, Nat.beq_refl] at hx; cases hx
      rw [lk_cons, lk_cons, lup_ok hr' j]
      by_cases hj : x.1 = j
      · rw [if_pos hj, if_pos hj, if_neg (by rw [← hj]; exact hne.symm)]
      · rw [if_neg hj, if_neg hj]
/-- The region's own temporaries that live on are laid beside the locals. -/
noncomputable def mv (K : Nat) (R L : Ls) : Option Ls := R.rec (some L) (fun x _ ih => ob ih fun L => (tb K x.1).rec (some L) (lup x.1 x.2 L))
def KeysIn (K : Nat) (L : Ls) : Prop := ∀ t v, lk t L none = some v → tb K t = true
theorem mv_ok {K : Nat} : ∀ {R L L' : Ls}, mv K R L = some L' → KeysIn K L → KeysIn K L' ∧ ∀ t v, lk t L' none = some v → lk t (R ++ L) none = some v
  | [], L, L', h, hk => by cases h; exact ⟨hk, fun t v h => h⟩
  | x :: R, L, L', h, hk => by
    obtain ⟨L1, h1, h⟩ := ob_eq (o := mv K R L) h
    obtain ⟨k1, k2⟩ := mv_ok h1 hk
    cases hb : tb K x.1 with
    | true =>
      rw [hb] at h
      have hl := lup_ok h
      refine ⟨fun t v ht => ?_, fun t v ht => ?_⟩
      · rw [hl t] at ht
        by_cases hx : x.1 = t
        · rw [← hx]; exact hb
        · rw [if_neg hx] at ht; exact k1 t v ht
      · rw [hl t] at ht
        rw [List.cons_append, lk_cons]
        by_cases hx : x.1 = t
        · rw [if_pos hx] at ht ⊢; exact ht
        · rw [if_neg hx] at ht ⊢; exact k2 t v ht
    | false =>
      rw [hb] at h; cases h
      refine ⟨k1, fun t v ht => ?_⟩
      rw [List.cons_append, lk_cons]
      by_cases hx : x.1 = t
      · have := k1 t v ht; rw [← hx, hb] at this; cases this
      · rw [if_neg hx]; exact k2 t v ht

/-- A list says what temporaries hold. -/
structure LR (E : Env) (n : Nat) (l : Ls) (a : Act) : Prop where
  size : a.tmps.size = n
  val : ∀ {t v}, lk t l none = some v → t < n ∧ VR E v (a.tmps.getD t undef)
theorem LR.mono {E E' : Env} {n : Nat} {l : Ls} {a : Act} (h : LR E n l a) (he : E.le E') : LR E' n l a := ⟨h.size, fun hv => ⟨(h.val hv).1, (h.val hv).2.mono he⟩⟩
theorem LR.sub {E : Env} {n : Nat} {l l' : Ls} {a : Act} (h : LR E n l a) (hs : ∀ t v, lk t l' none = some v → lk t l none = some v) : LR E n l' a := ⟨h.size, fun hv => h.val (hs _ _ hv)⟩
theorem LR.put {E : Env} {n d : Nat} {l : Ls} {a : Act} {v : V} {W : Value} (h : LR E n l a) (hd : d < n) (hv : VR E v W) : LR E n ((d, v) :: l) (a.put (some d) W) := by
  refine ⟨by simp [Act.put, h.size], fun {t u} ht => ?_⟩
  rw [lk_cons] at ht
  by_cases hx : d = t
  · rw [if_pos hx] at ht
    cases ht
    subst hx
    refine ⟨hd, ?_⟩
    have : d < a.tmps.size := by rw [h.size]; exact hd
    simpa [Act.put, Array.getD, this] using hv
  · rw [if_neg hx] at ht
    obtain ⟨h1, h2⟩ := h.val ht
    refine ⟨h1, ?_⟩
    have h3 : t < a.tmps.size := by rw [h.size]; exact h1
    simpa [Act.put, Array.getD, h3, Array.getElem_setIfInBounds_ne, hx] using h2

section
variable (R L : Ls)
noncomputable def evF (x : Operand) : Option V := match x with
  | .tmp t => lk t R (lk t L none)
  | .const v => ofValue v
  | .global g => ck (Nat.blt g 8) (some (.ptr g 0))
  | .func f => some (.fn f [] [])
end
theorem evF_ok {I : Inv} {K : Keep} {E : Env} {w : World} {s : S I.M} {n : Nat} {R L : Ls} {a : Act} (hS : Sim I K E s.H s.nx s.m w) (h : LR E n (R ++ L) a) {x : Operand} {v : V} (hx : evF R L x = some v) : VR E v (a.eval x) := by
  cases x with
  | tmp t => change lk t R (lk t L none) = some v at hx; rw [lk_app] at hx; exact (h.val hx).2
  | const c => exact ofValue_ok hx
  | global g =>
    obtain ⟨h1, h2⟩ := ck_eq hx
    cases h2
    obtain ⟨c, hc⟩ := hS.glob g (Nat.le_of_ble_eq_true h1)
    exact .ptr hc
  | func f => cases hx; exact VRs.fn (F := #[]) (L := #[]) .nil .nil

/-! ## regions in the order of the text -/
section
variable (P : Program) {M : Type} (cf : CF M) (n : Nat) (ops : List Oper) (L : Ls)
noncomputable def gd (R : Ls) (o : Oper) : Option Bool := match o.guard with
  | none => some true
  | some (j, want) => ob (lget j ops) fun oj => match oj.dst with
    | none => some false
    | some t => ob (lk t R (lk t L none)) fun v => match v with
      | .bool b => fB (b == want) fun b => some b
      | .tup _ => some false
      | _ => none
/-- What was reckoned is laid down. -/
noncomputable def push (d : Option Nat) (v : V) (R : Ls) : Option Ls := match d with
  | none => some R
  | some d => ck (Nat.blt d n) (some ((d, v) :: R))
noncomputable def runOps (l : List Oper) : Ls → S M → Option (Ls × S M) := l.rec (fun R s => some (R, s))
  (fun o _ ih R s => ob (gd ops L R o) fun b => b.rec (ob (push n o.dst (.tup []) R) fun R => ih R s)
    (ob (sop P cf (evF R L) s o.op) fun vs => ob (push n o.dst vs.1 R) fun R => ih R vs.2))
end
section
variable {P : Program} {I : Inv} {K : Keep} {E : Env} {w : World} {s s' : S I.M} {a : Act} {cf : CF I.M} {n : Nat} {ops : Array Oper} {L : Ls} {Q : Exit → Act → World → Prop}
theorem push_ok {d : Option Nat} {v : V} {R R' : Ls} {W : Value} (h : push n d v R = some R') (hR : LR E n (R ++ L) a) (hv : VR E v W) : LR E n (R' ++ L) (a.put d W) := by
  cases d with
  | none => cases h; exact hR
  | some d =>
    obtain ⟨h1, h2⟩ := ck_eq h
    cases h2
    exact hR.put (Nat.le_of_ble_eq_true h1) hv
theorem gd_ok {R : Ls} {o : Oper} {b : Bool} (h : gd ops.toList L R o = some b) (hR : LR E n (R ++ L) a) : Region.wanted o (yielded ops a.tmps) = b := by
  unfold gd at h
  unfold Region.wanted
  split at h
  · rename_i hg; cases h; simp [hg]
  · rename_i j want hg
    simp only [hg]
    obtain ⟨oj, hoj, h1⟩ := ob_eq h
    clear h
    rw [lget_eq] at hoj
    have hoj : ops[j]? = some oj := by simpa using hoj
    unfold yielded
    split at h1
    · rename_i hd; cases h1; simp [hoj, hd]
    · rename_i t hd
      obtain ⟨v, hv, h2⟩ := ob_eq h1
      clear h1
      rw [lk_app] at hv
      obtain ⟨k1, k2⟩ := hR.val hv
      have h3 : t < a.tmps.size := by rw [hR.size]; exact k1
      have h4 : a.tmps[t]? = some (a.tmps.getD t undef) := by simp [Array.getD, h3]
      clear hv
      generalize a.tmps.getD t undef = W at *
      simp only [hoj, hd, h4, Option.bind_some]
      cases k2 with
      | bool b' =>
        have h2 : fB (b' == want) (fun b => some b) = some b := h2
        rw [fB_eq] at h2
        have h2 := Option.some.inj h2
        rw [← h2]; cases b' <;> cases want <;> rfl
      | tup _ _ => cases h2; rfl
      | _ => cases h2
theorem put_defers (a : Act) (d : Option Tmp) (v : Value) : (a.put d v).defers = a.defers := by cases d <;> rfl

theorem runOps_ok (hP : Plain P) (hcf : CallOk I P cf) : ∀ {l : List Oper} {R R' : Ls} {s s' : S I.M} {E : Env} {a : Act} {w : World}, runOps P cf n ops.toList L l R s = some (R', s') → LR E n (R ++ L) a → Sim I K E s.H s.nx s.m w →
    (∀ E' a' w', E.le E' → LR E' n (R' ++ L) a' → a'.defers = a.defers → Sim I K E' s'.H s'.nx s'.m w' → Q .normal a' w') → wpList P ops Q l a w
  | [], R, R', s, s', E, a, w, h, hR, hS, hQ => by cases h; exact hQ E a w (.refl E) hR rfl hS
  | o :: l, R, R', s, s', E, a, w, h, hR, hS, hQ => by
    obtain ⟨b, hb, h⟩ := ob_eq (o := gd ops.toList L R o) h
    have hw := gd_ok hb hR
    unfold wpList
    cases b with
    | false =>
      obtain ⟨R1, hR1, h⟩ := ob_eq (o := push n o.dst (.tup []) R) h
      rw [hw, if_neg (by simp)]
      exact runOps_ok hP hcf h (push_ok hR1 hR (W := undef) (VRs.tup .nil)) hS (fun E' a' w' q1 q2 q3 q4 => hQ E' a' w' q1 q2 (by rw [q3, put_defers]) q4)
    | true =>
      obtain ⟨vs, hvs, h⟩ := ob_eq (o := sop P cf (evF R L) s o.op) h
      obtain ⟨R1, hR1, h⟩ := ob_eq h
      rw [hw, if_pos rfl]
      left
      refine sop_ok hP hcf (fun hx => evF_ok hS hR hx) hS (v := vs.1) (s' := vs.2) hvs (fun W E1 w1 p1 p2 p3 => ?_)
      exact runOps_ok hP hcf h (push_ok hR1 (hR.mono p1) p2) p3 (fun E' a' w' q1 q2 q3 q4 => hQ E' a' w' (p1.trans q1) q2 (by rw [q3, put_defers]) q4)
end
end X
end Go.Proofs.YtnkjnclpakfgnaaGreatDoor
namespace Go.Proofs.YtnkjnclpakfgnaaGreatDoor
namespace X

/-- How code ends. -/
inductive Ex where
  | n
  | x (id : Nat)
  | r
def Ex.to : Ex → Exit
  | .n => .normal
  | .x id => .exit id
  | .r => .ret
structure Rt (M : Type) where
  e : Ex
  R : Ls
  L : Ls
  s : S M

/-- A region that draws. -/
abbrev DR (M : Type) := List Oper → Ls → S M → Option (Ls × S M)
def DrOk (I : Inv) (P : Program) (n : Nat) (dr : DR I.M) : Prop :=
  ∀ {ops : Array Oper} {L R' : Ls} {s s' : S I.M}, dr ops.toList L s = some (R', s') → ∀ {K : Keep} {E : Env} {a : Act} {w : World} {Q : Exit → Act → World → Prop} {id : Nat}, LR E n L a → Sim I K E s.H s.nx s.m w →
    (∀ E' a' w', E.le E' → LR E' n (R' ++ L) a' → a'.defers = a.defers → Sim I K E' s'.H s'.nx s'.m w' → Q .normal a' w') → (Code.region id ops true).wp P Q a w

section
variable (P : Program) {M : Type} (cf : CF M) (K n : Nat) (dr : DR M)
noncomputable def execR (ops : List Oper) (draw : Bool) (L : Ls) (s : S M) : Option (Rt M) :=
  ob (draw.rec (runOps P cf n ops L ops [] s) (dr ops L s)) fun x => ob (mv K x.1 L) fun L => some ⟨.n, x.1, L, x.2⟩
/-- Rounds. -/
noncomputable def loopN (body : Ls → Ls → S M → Option (Rt M)) (k : Nat) : Ls → Ls → S M → Option (Rt M) := k.rec (fun _ _ _ => none)
  (fun _ ih R L s => ob (body R L s) fun r => match r with
    | ⟨.n, R, L, s⟩ => ih R L s
    | r => some r)
noncomputable def execC (c : Code) : Ls → Ls → S M → Option (Rt M) :=
  @Code.rec (fun _ => Ls → Ls → S M → Option (Rt M))
    (fun R L s => some ⟨.n, R, L, s⟩)
    (fun _ ops draw _ L s => execR P cf K n dr ops.toList draw L s)
    (fun _ _ iha ihb R L s => ob (iha R L s) fun r => match r with
      | ⟨.n, R, L, s⟩ => ihb R L s
      | r => some r)
    (fun c _ _ iht ihe R L s => ob (evF R L c) fun v => match v with
      | .bool true => iht R L s
      | .bool false => ihe R L s
      | _ => none)
    (fun id _ ih R L s => ob (ih R L s) fun r => match r with
      | ⟨.x id', R, L, s⟩ => (Nat.beq id' id).rec (some ⟨.x id', R, L, s⟩) (some ⟨.n, R, L, s⟩)
      | r => some r)
    (fun _ ih R L s => loopN ih 1000 R L s)
    (fun _ _ _ _ _ _ _ _ _ => none)
    (fun id R L s => some ⟨.x id, R, L, s⟩)
    (fun _ _ _ _ _ => none)
    (fun _ R L s => some ⟨.n, R, L, s⟩)
    (fun _ _ _ _ => none)
    (fun R L s => some ⟨.r, R, L, s⟩)
    (fun _ _ _ _ => none)
    c
end

section
variable {P : Program} {I : Inv} {M : Keep} {cf : CF I.M} {K n : Nat} {dr : DR I.M}

theorem lk_or (t : Nat) : ∀ R : Ls, (∃ u, ∀ X, lk t (R ++ X) none = some u) ∨ ∀ X, lk t (R ++ X) none = lk t X none
  | [] => .inr fun _ => rfl
  | x :: R => by
    by_cases hx : x.1 = t
    · exact .inl ⟨x.2, fun X => by rw [List.cons_append, lk_cons, if_pos hx]⟩
    · rcases lk_or t R with ⟨u, hu⟩ | hu
      · exact .inl ⟨u, fun X => by rw [List.cons_append, lk_cons, if_neg hx, hu]⟩
      · exact .inr fun X => by rw [List.cons_append, lk_cons, if_neg hx, hu]

/-- Code runs as was said. -/
def CodeOk (I : Inv) (M : Keep) (P : Program) (K n : Nat) (c : Code) (R L : Ls) (s : S I.M) (r : Rt I.M) : Prop :=
  ∀ {E : Env} {a : Act} {w : World} {Q : Exit → Act → World → Prop}, LR E n (R ++ L) a → LR E n L a → KeysIn K L → Sim I M E s.H s.nx s.m w →
    (∀ E' a' w', E.le E' → LR E' n (r.R ++ r.L) a' → LR E' n r.L a' → KeysIn K r.L → a'.defers = a.defers → Sim I M E' r.s.H r.s.nx r.s.m w' → Q r.e.to a' w') → c.wp P Q a w

theorem execR_ok (hP : Plain P) (hcf : CallOk I P cf) (hdr : DrOk I P n dr) {id : Nat} {ops : Array Oper} {draw : Bool} {R L : Ls} {s : S I.M} {r : Rt I.M} (h : execR P cf K n dr ops.toList draw L s = some r) : CodeOk I M P K n (.region id ops draw) R L s r := by
  intro E a w Q _ hL hK hS hQ
  obtain ⟨x, hx, h⟩ := ob_eq h
  obtain ⟨L', hL', h⟩ := ob_eq h
  cases h
  obtain ⟨m1, m2⟩ := mv_ok hL' hK
  have fin : ∀ E' a' w', E.le E' → LR E' n (x.1 ++ L) a' → a'.defers = a.defers → Sim I M E' x.2.H x.2.nx x.2.m w' → Q .normal a' w' := fun E' a' w' q1 q2 q3 q4 => by
    refine hQ E' a' w' q1 (q2.sub fun t v ht => ?_) (q2.sub m2) m1 q3 q4
    dsimp only at ht
    rcases lk_or t x.1 with ⟨u, hu⟩ | hu
    · rw [hu] at ht ⊢; exact ht
    · rw [hu] at ht; exact m2 t v ht
  cases draw with
  | false => exact wp_region_list (runOps_ok hP hcf (n := n) (ops := ops) (L := L) (R := []) hx hL hS fin)
  | true => exact hdr hx hL hS fin

theorem loopN_ok {c : Code} {body : Ls → Ls → S I.M → Option (Rt I.M)} (hb : ∀ {R L : Ls} {s : S I.M} {r : Rt I.M}, body R L s = some r → CodeOk I M P K n c R L s r) : ∀ {k : Nat} {R L : Ls} {s : S I.M} {r : Rt I.M}, loopN body k R L s = some r →
    ∀ {E : Env} {a : Act} {w : World} {Q : Exit → Act → World → Prop}, LR E n (R ++ L) a → LR E n L a → KeysIn K L → Sim I M E s.H s.nx s.m w →
    (∀ E' a' w', E.le E' → LR E' n (r.R ++ r.L) a' → LR E' n r.L a' → KeysIn K r.L → a'.defers = a.defers → Sim I M E' r.s.H r.s.nx r.s.m w' → Q r.e.to a' w') → Code.rounds P c Q k a w
  | 0, _, _, _, _, h => by cases h
  | k + 1, R, L, s, r, h => by
    rename_i E a w Q
    intro hR hL hK hS hQ
    obtain ⟨q, hq, h⟩ := ob_eq (o := body R L s) h
    rw [rounds_succ]
    obtain ⟨e, R1, L1, s1⟩ := q
    refine hb hq (E := E) hR hL hK hS ?_
    intro E' a' w' q1 q2 q3 q4 q5 q6
    cases e with
    | n => exact loopN_ok hb h q2 q3 q4 q6 (fun E2 a2 w2 p1 p2 p3 p4 p5 p6 => hQ E2 a2 w2 (q1.trans p1) p2 p3 p4 (p5.trans q5) p6)
    | x id => cases h; exact hQ E' a' w' q1 q2 q3 q4 q5 q6
    | r => cases h; exact hQ E' a' w' q1 q2 q3 q4 q5 q6

theorem execC_ok (hP : Plain P) (hcf : CallOk I P cf) (hdr : DrOk I P n dr) : ∀ {c : Code} {R L : Ls} {s : S I.M} {r : Rt I.M}, execC P cf K n dr c R L s = some r → CodeOk I M P K n c R L s r := by
  intro c
  induction c with
  | skip => intro R L s r h E a w Q hR hL hK hS hQ; cases h; exact wp_skip (hQ E a w (.refl E) hR hL hK rfl hS)
  | label l => intro R L s r h E a w Q hR hL hK hS hQ; cases h; exact wp_label (hQ E a w (.refl E) hR hL hK rfl hS)
  | exit id => intro R L s r h E a w Q hR hL hK hS hQ; cases h; exact wp_exit (hQ E a w (.refl E) hR hL hK rfl hS)
  | ret => intro R L s r h E a w Q hR hL hK hS hQ; cases h; exact wp_ret (hQ E a w (.refl E) hR hL hK rfl hS)
  | region id ops draw => intro R L s r h; exact execR_ok hP hcf hdr h
  | seq x y ihx ihy =>
    intro R L s r h E a w Q hR hL hK hS hQ
    obtain ⟨q, hq, h⟩ := ob_eq (o := execC P cf K n dr x R L s) h
    obtain ⟨e, R1, L1, s1⟩ := q
    refine wp_seq (ihx hq hR hL hK hS (fun E' a' w' q1 q2 q3 q4 q5 q6 => ?_))
    cases e with
    | n => exact ihy h q2 q3 q4 q6 (fun E2 a2 w2 p1 p2 p3 p4 p5 p6 => hQ E2 a2 w2 (q1.trans p1) p2 p3 p4 (p5.trans q5) p6)
    | x id => cases h; exact hQ E' a' w' q1 q2 q3 q4 q5 q6
    | r => cases h; exact hQ E' a' w' q1 q2 q3 q4 q5 q6
  | cond c x y ihx ihy =>
    intro R L s r h E a w Q hR hL hK hS hQ
    obtain ⟨v, hv, h⟩ := ob_eq (o := evF R L c) h
    have hr := evF_ok hS hR hv
    cases v with
    | bool b =>
      generalize hc : a.eval c = X at hr
      cases hr
      cases b with
      | true => exact wp_cond (t := true) hc (ihx h hR hL hK hS hQ)
      | false => exact wp_cond (t := false) hc (ihy h hR hL hK hS hQ)
    | _ => cases h
  | block id x ih =>
    intro R L s r h E a w Q hR hL hK hS hQ
    obtain ⟨q, hq, h⟩ := ob_eq (o := execC P cf K n dr x R L s) h
    obtain ⟨e, R1, L1, s1⟩ := q
    refine wp_block (ih hq hR hL hK hS (fun E' a' w' q1 q2 q3 q4 q5 q6 => ?_))
    cases e with
    | n => cases h; exact hQ E' a' w' q1 q2 q3 q4 q5 q6
    | r => cases h; exact hQ E' a' w' q1 q2 q3 q4 q5 q6
    | x id' =>
      cases hb : Nat.beq id' id with
      | true =>
        have h : some (⟨.n, R1, L1, s1⟩ : Rt I.M) = some r := by rw [← h]; simp only [hb]
        cases h
        show (if id' = id then Q .normal a' w' else _)
        rw [if_pos (Nat.eq_of_beq_eq_true hb)]
        exact hQ E' a' w' q1 q2 q3 q4 q5 q6
      | false =>
        have h : some (⟨.x id', R1, L1, s1⟩ : Rt I.M) = some r := by rw [← h]; simp only [hb]
        cases h
        show (if id' = id then _ else Q (.exit id') a' w')
        rw [if_neg (fun e => by rw [e, Nat.beq_refl] at hb; cases hb)]
        exact hQ E' a' w' q1 q2 q3 q4 q5 q6
  | loop x ih =>
    intro R L s r h E a w Q hR hL hK hS hQ
    have h : loopN (execC P cf K n dr x) 1000 R L s = some r := h
    exact wp_loop_rounds 1000 (loopN_ok (fun hb => ih hb) h hR hL hK hS hQ)
  | rangeFunc _ _ _ _ _ _ => intro R L s r h; cases h
  | scope _ _ => intro R L s r h; cases h
  | goto _ => intro R L s r h; cases h
  | refuse _ => intro R L s r h; cases h
end

/-! ## calls -/
section
variable (P : Program) {M : Type}
noncomputable def resV (R L : Ls) (s : S M) (x : ResultVar) : Option V := match x with
  | .tmp t => lk t R (lk t L none)
  | .cell t ty => eLoad P (evF R L) s ty (.tmp t)
noncomputable def resVs (R L : Ls) (s : S M) (l : List ResultVar) : Option (List V) := l.rec (some []) (fun x _ ih => ob (resV P R L s x) fun v => ob ih fun r => some (v :: r))
noncomputable def resF (R L : Ls) (s : S M) (l : List ResultVar) : Option V := ob (resVs P R L s l) fun r => match r with
  | [v] => some v
  | r => some (.tup r)
/-- The arguments, as the first temporaries. -/
noncomputable def argL (l : List V) : Nat → Ls := l.rec (fun _ => []) (fun v _ ih k => fN (k + 1) fun k' => (k, v) :: ih k')
noncomputable def runF (cf : CF M) (K : Nat) (dr : Nat → DR M) (fn : Func) (args : List V) (s : S M) : Option (V × S M) :=
  ob fn.body fun c => ck (Nat.ble (llen args) fn.ntmps) (ob (mv K (argL args 0) []) fun L => ob (execC P cf K fn.ntmps (dr fn.ntmps) c (argL args 0) L s) fun r => match r.e with
    | .x _ => none
    | _ => ob (resF P r.R r.L r.s fn.results.toList) fun v => some (v, r.s))
/-- Calls, so deep. What 'pl' answers is answered by it. -/
noncomputable def callN (kp : Nat → Nat) (dr : CF M → Nat → DR M) (pl : Nat → Bool) (plug : CF M → CF M) (k : Nat) : CF M := k.rec (fun _ _ _ => none)
  (fun _ ih f args s => (pl f).rec (ob (fnT P f) fun fn => runF P ih (kp f) (dr ih) fn args s) (plug ih f args s))
end
section
variable {P : Program} {I : Inv} {M : Keep} {E : Env} {w : World} {s : S I.M} {n : Nat} {R L : Ls} {a : Act}
theorem resV_ok {x : ResultVar} {v : V} (h : resV P R L s x = some v) (hR : LR E n (R ++ L) a) (hS : Sim I M E s.H s.nx s.m w) :
    ∃ W, (match x with | .tmp t => pure (a.tmps.getD t undef) | .cell b t => do loadVar t (← asAddr (a.tmps.getD b undef)) : Sem Value).run P w = .ok W w ∧ VR E v W := by
  cases x with
  | tmp t =>
    have h : lk t R (lk t L none) = some v := h
    rw [lk_app] at h
    exact ⟨_, rfl, (hR.val h).2⟩
  | cell b ty =>
    have h : eLoad P (evF R L) s ty (.tmp b) = some v := h
    obtain ⟨W, h1, h2⟩ := eLoad_ok (P := P) (ρ := a.eval) (fun hx => evF_ok hS hR hx) hS h
    refine ⟨W, ?_, h2⟩
    obtain ⟨u, hu, h3⟩ := ob_eq h
    have hr := evF_ok hS hR hu
    have hx : a.eval (.tmp b) = a.tmps.getD b undef := rfl
    rw [hx] at h1 hr
    show (do loadVar ty (← asAddr (a.tmps.getD b undef)) : Sem Value).run P w = _
    obtain ⟨X, hX⟩ : ∃ X, a.tmps.getD b undef = X := ⟨_, rfl⟩
    rw [hX] at h1 hr ⊢
    cases hr <;> first | (cases h3; done) | skip
    simpa [Instr.loadAt, Instr.sureAddr, asAddr] using h1
theorem resVs_ok {tm : Array Value} (htm : tm = a.tmps) : ∀ {l : List ResultVar} {r : List V}, resVs P R L s l = some r → LR E n (R ++ L) a → Sim I M E s.H s.nx s.m w →
    ∃ vs, (l.mapM fun x => (match x with | .tmp t => pure (tm.getD t undef) | .cell b t => do loadVar t (← asAddr (tm.getD b undef)) : Sem Value)).run P w = .ok vs w ∧ VRs E r vs
  | [], r, h, hR, hS => by cases h; exact ⟨[], rfl, .nil⟩
  | x :: l, r, h, hR, hS => by
    obtain ⟨v, hv, h⟩ := ob_eq (o := resV P R L s x) h
    obtain ⟨q, hq, h⟩ := ob_eq (o := resVs P R L s l) h
    cases h
    obtain ⟨vs, h1, h2⟩ := resVs_ok htm hq hR hS
    obtain ⟨W, h3, h4⟩ := resV_ok hv hR hS
    refine ⟨W :: vs, ?_, .cons h4 h2⟩
    subst htm
    rw [List.mapM_cons]
    simp only [Sem.run_bind, h3, Result.andThen_ok, h1, Sem.run_pure]
theorem resF_ok {fn : Func} {v : V} (h : resF P R L s fn.results.toList = some v) (hR : LR E n (R ++ L) a) (hS : Sim I M E s.H s.nx s.m w) : ∃ W, (results fn a.tmps).run P w = .ok W w ∧ VR E v W := by
  obtain ⟨r, hr, h⟩ := ob_eq h
  obtain ⟨vs, h1, h2⟩ := resVs_ok rfl hr hR hS
  have hm : (results fn a.tmps).run P w = .ok (if h : vs.toArray.size = 1 then vs.toArray[0] else .tuple vs.toArray) w := by
    unfold results
    rw [Array.mapM_eq_mapM_toList]
    simp only [Sem.run_bind, Sem.run_map]
    erw [h1]
    rfl
  refine ⟨_, hm, ?_⟩
  have htup : ∀ {r : List V}, VRs E r vs → r.length ≠ 1 → VR E (.tup r) (if h : vs.toArray.size = 1 then vs.toArray[0] else .tuple vs.toArray) := fun {r} hr hn => by
    rw [dif_neg (by simpa [← hr.1] using hn)]
    exact VRs.tup (by simpa using hr)
  split at h
  · cases h
    obtain ⟨W, m, rfl, h3, h4⟩ := h2.head
    have : m = [] := List.eq_nil_of_length_eq_zero h4.1.symm
    subst this
    simpa using h3
  · rename_i hne
    cases h
    refine htup h2 (fun h1 => ?_)
    obtain ⟨x, hx⟩ := List.length_eq_one_iff.1 h1
    exact hne x hx

theorem argL_ok : ∀ {l : List V} {k t : Nat} {v : V}, lk t (argL l k) none = some v → k ≤ t ∧ l[t - k]? = some v
  | [], k, t, v, h => by cases h
  | x :: l, k, t, v, h => by
    have h : lk t (fN (k + 1) fun k' => (k, x) :: argL l k') none = some v := h
    rw [fN_eq, lk_cons] at h
    dsimp only at h
    by_cases hk : k = t
    · rw [if_pos hk] at h; cases h; subst hk; simp
    · rw [if_neg hk] at h
      obtain ⟨h1, h2⟩ := argL_ok h
      refine ⟨by omega, ?_⟩
      rw [show t - k = (t - (k + 1)) + 1 by omega, List.getElem?_cons_succ]; exact h2

theorem runF_ok {cf : CF I.M} {K : Nat} {dr : Nat → DR I.M} (hP : Plain P) (hcf : CallOk I P cf) (hdr : ∀ n, DrOk I P n (dr n)) {f : Nat} {fn : Func} (hf : P.funcs[f]? = some fn) {args : List V} {s s' : S I.M} {v : V}
    (h : runF P cf K dr fn args s = some (v, s')) {A : Array Value} (hS : Sim I M E s.H s.nx s.m w) (hA : VRs E args A.toList) :
    Calls P f A w fun e w' => ∃ W E', e = .returned W ∧ E.le E' ∧ VR E' v W ∧ Sim I M E' s'.H s'.nx s'.m w' := by
  obtain ⟨c, hc, h⟩ := ob_eq h
  obtain ⟨h1, h⟩ := ck_eq h
  obtain ⟨L, hL, h⟩ := ob_eq h
  obtain ⟨r, hr, h⟩ := ob_eq h
  have h1 := Nat.le_of_ble_eq_true h1
  rw [llen_eq] at h1
  have hlen : args.length = A.size := by simpa using hA.1
  refine calls_of_wp hf hc ?_
  have h0 : LR E fn.ntmps (argL args 0) { tmps := A ++ Array.replicate (fn.ntmps - A.size) undef, defers := [] } := by
    refine ⟨by simp; omega, fun {t u} ht => ?_⟩
    obtain ⟨_, h2⟩ := argL_ok ht
    rw [Nat.sub_zero] at h2
    have hlt := (List.getElem?_eq_some_iff.1 h2).1
    obtain ⟨W, h3, h4⟩ := hA.get h2
    refine ⟨by omega, ?_⟩
    have h5 : (A ++ Array.replicate (fn.ntmps - A.size) undef).getD t undef = W := by
      have h6 : A[t]? = some W := by simpa using h3
      rw [Array.getD_eq_getD_getElem?, Array.getElem?_append_left (by omega), h6]; rfl
    rw [h5]; exact h4
  obtain ⟨m1, m2⟩ := mv_ok hL (L := []) (K := K) (fun t v ht => by cases ht)
  have hL0 : LR E fn.ntmps L { tmps := A ++ Array.replicate (fn.ntmps - A.size) undef, defers := [] } := h0.sub fun t u ht => by simpa using m2 t u ht
  have hR0 : LR E fn.ntmps (argL args 0 ++ L) { tmps := A ++ Array.replicate (fn.ntmps - A.size) undef, defers := [] } := h0.sub fun t u ht => by
    rcases lk_or t (argL args 0) with ⟨q, hq⟩ | hq
    · rw [hq] at ht
      have := hq []
      rw [List.append_nil] at this; rw [this]; exact ht
    · rw [hq] at ht; simpa using m2 t u ht
  refine execC_ok (M := M) hP hcf (hdr _) hr hR0 hL0 m1 hS (fun E' a' w' q1 q2 q3 q4 q5 q6 => ?_)
  obtain ⟨e, R1, L1, s1⟩ := r
  have fin : (ob (resF P R1 L1 s1 fn.results.toList) fun v => some (v, s1)) = some (v, s') → a'.defers = [] ∧ ∃ W, (results fn a'.tmps).run P w' = .ok W w' ∧ ∃ W1 E2, Ending.returned W = .returned W1 ∧ E.le E2 ∧ VR E2 v W1 ∧ Sim I M E2 s'.H s'.nx s'.m w' := fun h => by
    obtain ⟨u, hu, h⟩ := ob_eq h
    cases h
    obtain ⟨W, h7, h8⟩ := resF_ok hu q2 q6
    exact ⟨q5, W, h7, W, E', rfl, q1, h8, q6⟩
  cases e with
  | n => exact fin h
  | r => exact fin h
  | x id => cases h

/-- What is plugged in is right. -/
def PlugOk (I : Inv) (P : Program) (pl : Nat → Bool) (plug : CF I.M → CF I.M) : Prop :=
  ∀ {cf : CF I.M}, CallOk I P cf → ∀ {f : Nat} {args : List V} {s s' : S I.M} {v : V}, pl f = true → plug cf f args s = some (v, s') → ∀ {K : Keep} {E : Env} {w : World} {A : Array Value}, Sim I K E s.H s.nx s.m w → VRs E args A.toList →
    Calls P f A w fun e w' => ∃ W E', e = .returned W ∧ E.le E' ∧ VR E' v W ∧ Sim I K E' s'.H s'.nx s'.m w'

theorem callN_ok {kp : Nat → Nat} {dr : CF I.M → Nat → DR I.M} {pl : Nat → Bool} {plug : CF I.M → CF I.M} (hP : Plain P) (hdr : ∀ {cf}, CallOk I P cf → ∀ n, DrOk I P n (dr cf n)) (hpl : PlugOk I P pl plug) : ∀ k, CallOk I P (callN P kp dr pl plug k) := by
  intro k
  induction k with
  | zero => intro f args s s' v h; cases h
  | succ k ih =>
    intro f args s s' v h
    cases hb : pl f with
    | true =>
      have h : plug (callN P kp dr pl plug k) f args s = some (v, s') := by rw [← h]; show _ = Bool.rec (motive := fun _ => Option (V × S I.M)) _ _ (pl f); rw [hb]; rfl
      intro K E w A hS hA
      exact hpl ih hb h hS hA
    | false =>
      have h : (ob (fnT P f) fun fn => runF P (callN P kp dr pl plug k) (kp f) (dr (callN P kp dr pl plug k)) fn args s) = some (v, s') := by
        rw [← h]; show _ = Bool.rec (motive := fun _ => Option (V × S I.M)) _ _ (pl f); rw [hb]; rfl
      obtain ⟨fn, hfn, h⟩ := ob_eq h
      have hf : P.funcs[f]? = some fn := by
        unfold fnT at hfn; rw [lget_eq] at hfn; simpa using hfn
      intro K E w A hS hA
      exact runF_ok hP ih (hdr ih) hf h hS hA
end
end X
end Go.Proofs.YtnkjnclpakfgnaaGreatDoor
namespace Go.Proofs.YtnkjnclpakfgnaaGreatDoor
namespace X

/-! ## what stands ahead of what -/
def bindsA (e : Edge) : Bool := Region.binds .any e
/-- All that stands ahead of an operation, as bits. -/
noncomputable def maskE (acc : List Nat) (es : List Edge) : Nat := es.rec 0 (fun e _ ih => (bindsA e).rec ih (fN (2 ^ e.on ||| ((lget e.on acc).rec 0 (fun m => m)) ||| ih) fun n => n))
theorem maskE_bit {acc : List Nat} {j : Nat} : ∀ {es : List Edge}, tb (maskE acc es) j = true → ∃ e ∈ es, bindsA e = true ∧ (j = e.on ∨ ∃ m, acc[e.on]? = some m ∧ tb m j = true)
  | [], h => by rw [tb_eq] at h; simp [maskE] at h
  | e :: es, h => by
    have h : tb ((bindsA e).rec (maskE acc es) (fN (2 ^ e.on ||| ((lget e.on acc).rec 0 (fun m => m)) ||| maskE acc es) fun n => n)) j = true := h
    have ih := @maskE_bit acc j es
    cases hb : bindsA e with
    | false =>
      rw [hb] at h
      obtain ⟨e', h1, h2⟩ := ih h
      exact ⟨e', .tail _ h1, h2⟩
    | true =>
      rw [hb] at h
      simp only [fN_eq, tb_eq, Nat.testBit_or, Bool.or_eq_true] at h
      rcases h with (h | h) | h
      · refine ⟨e, .head _, hb, .inl ?_⟩
        rw [Nat.testBit_two_pow] at h; exact (of_decide_eq_true h).symm
      · refine ⟨e, .head _, hb, .inr ?_⟩
        rw [lget_eq] at h
        cases hm : acc[e.on]? with
        | none => rw [hm] at h; simp at h
        | some m => rw [hm] at h; exact ⟨m, rfl, by rw [tb_eq]; exact h⟩
      · obtain ⟨e', h1, h2⟩ := ih (by rw [tb_eq]; exact h)
        exact ⟨e', .tail _ h1, h2⟩
/-- The masks of all. -/
noncomputable def masks (l : List Oper) : List Nat → Option (List Nat) := l.rec (fun acc => some acc) (fun o _ ih acc => fN (maskE acc o.after.toList) fun m => ob (lapp acc [m]) fun acc => ih acc)
theorem masks_ok : ∀ {l : List Oper} {acc ms : List Nat}, masks l acc = some ms → ms.length = acc.length + l.length ∧ (∀ (i m : Nat), acc[i]? = some m → ms[i]? = some m) ∧
    ∀ (i : Nat) (o : Oper), l[i]? = some o → ms[acc.length + i]? = some (maskE (ms.take (acc.length + i)) o.after.toList)
  | [], acc, ms, h => by cases h; exact ⟨rfl, fun _ _ h => h, fun i o h => by simp at h⟩
  | o :: l, acc, ms, h => by
    have h : (fN (maskE acc o.after.toList) fun m => ob (lapp acc [m]) fun acc => masks l acc) = some ms := h
    rw [fN_eq, lapp_eq] at h
    have h : masks l (acc ++ [maskE acc o.after.toList]) = some ms := h
    obtain ⟨h1, h2, h3⟩ := masks_ok h
    simp only [List.length_append, List.length_cons, List.length_nil, Nat.zero_add] at h1 h3
    have htake : ms.take acc.length = acc := by
      apply List.ext_getElem?
      intro i
      rw [List.getElem?_take]
      split
      · rename_i hi
        have := h2 i acc[i] (by rw [List.getElem?_append_left hi]; exact List.getElem?_eq_getElem hi)
        rw [this, List.getElem?_eq_getElem hi]
      · rename_i hi; rw [List.getElem?_eq_none (by omega)]
    refine ⟨by simp; omega, fun i m hi => h2 i m ?_, fun i p hp => ?_⟩
    · rw [List.getElem?_append_left (List.getElem?_eq_some_iff.1 hi).1]; exact hi
    · cases i with
      | zero =>
        cases hp
        rw [Nat.add_zero, htake]
        exact h2 acc.length _ (by simp)
      | succ i => rw [show acc.length + (i + 1) = acc.length + 1 + i by omega]; exact h3 i p (by simpa using hp)

/-! ## records -/
inductive Cl (M : Type) where
  | u
  | p
  | r (t : Nat) (a : V)
  | b (t id : Nat) (o : O)
  | h (pre post : S M)
structure Rc (M : Type) where
  d : Option Nat
  v : V
  c : Cl M

section
variable {M : Type}
/-- The temporaries as the text's order leaves them. -/
def Rof (R : Ls) : List (Rc M) → Ls
  | [] => R
  | r :: l => Rof (match r.d with | some d => (d, r.v) :: R | none => R) l
/-- The last of a set that writes a temporary. -/
def lkS (p : Nat → Bool) (t : Nat) : List (Rc M) → Nat → Option V
  | [], _ => none
  | r :: l, k => match lkS p t l (k + 1) with
    | some u => some u
    | none => if p k = true ∧ r.d = some t then some r.v else none
theorem lkS_congr {p q : Nat → Bool} {t : Nat} : ∀ {l : List (Rc M)} {k : Nat}, (∀ (j : Nat) (r : Rc M), l[j]? = some r → r.d = some t → p (k + j) = q (k + j)) → lkS p t l k = lkS q t l k
  | [], _, _ => rfl
  | r :: l, k, h => by
    have ih : lkS p t l (k + 1) = lkS q t l (k + 1) := lkS_congr fun j r hj hd => by
      have := h (j + 1) r (by simpa using hj) hd
      rw [show k + (j + 1) = k + 1 + j by omega] at this; exact this
    unfold lkS
    rw [ih]
    by_cases hd : r.d = some t
    · have := h 0 r rfl hd
      rw [Nat.add_zero] at this
      rw [this]
    · simp [hd]
theorem lkS_none {p : Nat → Bool} {t : Nat} : ∀ {l : List (Rc M)} {k : Nat}, (∀ (j : Nat) (r : Rc M), l[j]? = some r → r.d = some t → p (k + j) = false) → lkS p t l k = none
  | [], _, _ => rfl
  | r :: l, k, h => by
    unfold lkS
    rw [lkS_none (fun j r hj hd => by have := h (j + 1) r (by simpa using hj) hd; rwa [show k + (j + 1) = k + 1 + j by omega] at this)]
    dsimp only
    rw [if_neg]
    rintro ⟨h1, h2⟩
    have := h 0 r rfl h2
    rw [Nat.add_zero, h1] at this; cases this
/-- The one that is last. -/
theorem lkS_last {p : Nat → Bool} {t : Nat} : ∀ {l : List (Rc M)} {k i : Nat} {r : Rc M}, l[i]? = some r → r.d = some t → p (k + i) = true → (∀ (j : Nat) (r : Rc M), l[j]? = some r → r.d = some t → i < j → p (k + j) = false) → lkS p t l k = some r.v
  | [], _, _, _, h, _, _, _ => by simp at h
  | x :: l, k, 0, r, h, hd, hp, hn => by
    cases h
    unfold lkS
    rw [lkS_none (fun j r hj hd => by have := hn (j + 1) r (by simpa using hj) hd (by omega); rwa [show k + (j + 1) = k + 1 + j by omega] at this)]
    dsimp only
    rw [if_pos ⟨by simpa using hp, hd⟩]
  | x :: l, k, i + 1, r, h, hd, hp, hn => by
    unfold lkS
    rw [lkS_last (l := l) (k := k + 1) (i := i) (by simpa using h) hd (by rwa [show k + 1 + i = k + (i + 1) by omega])
      (fun j r hj hd hij => by have := hn (j + 1) r (by simpa using hj) hd (by omega); rwa [show k + (j + 1) = k + 1 + j by omega] at this)]
theorem lk_Rof (t : Nat) : ∀ (l : List (Rc M)) (R L : Ls) (k : Nat), lk t (Rof R l ++ L) none = (lkS (fun _ => true) t l k).or (lk t (R ++ L) none)
  | [], R, L, _ => by simp [Rof, lkS]
  | r :: l, R, L, k => by
    unfold Rof lkS
    rw [lk_Rof t l _ L (k + 1)]
    cases h : lkS (fun _ => true) t l (k + 1) with
    | some u => rfl
    | none =>
      dsimp only
      cases hd : r.d with
      | none => simp
      | some d =>
        simp only [List.cons_append, lk_cons, true_and, Option.some.injEq, Option.none_or]
        by_cases hx : d = t
        · rw [if_pos hx, if_pos hx]; rfl
        · rw [if_neg hx, if_neg hx]; rfl
/-- The first i alone. -/
theorem lkS_take (t : Nat) : ∀ (l : List (Rc M)) (k i : Nat), lkS (fun _ => true) t (l.take i) k = lkS (fun j => decide (j < k + i)) t l k
  | [], _, _ => by simp [lkS]
  | r :: l, k, 0 => by
    rw [List.take_zero, lkS_none (p := fun j => decide (j < k + 0))]; rfl
    intro j r _ _; simp
  | r :: l, k, i + 1 => by
    rw [List.take_succ_cons]
    unfold lkS
    rw [lkS_take t l (k + 1) i, show k + 1 + i = k + (i + 1) by omega]
    simp
end
end X
end Go.Proofs.YtnkjnclpakfgnaaGreatDoor
namespace Go.Proofs.YtnkjnclpakfgnaaGreatDoor
namespace X

/-! ## equal values -/
noncomputable def veq0 : V → V → Bool
  | .bool a, .bool b => a == b
  | .int k n, .int k' m => (Nat.beq (kno k) (kno k')).rec false (ieq n m)
  | .sym k s, .sym k' s' => (Nat.beq (kno k) (kno k')).rec false (Nat.beq s s')
  | .str a, .str b => leq a b
  | .ptr i o, .ptr i' o' => (Nat.beq i i').rec false (Nat.beq o o')
  | .nilp, .nilp => true
  | .sl a b c d, .sl a' b' c' d' => (Nat.beq a a').rec false ((Nat.beq b b').rec false ((Nat.beq c c').rec false (Nat.beq d d')))
  | .sg a b c d, .sg a' b' c' d' => (Nat.beq a a').rec false ((Nat.beq b b').rec false ((Nat.beq c c').rec false (Nat.beq d d')))
  | .nils, .nils => true
  | .nilf, .nilf => true
  | .nili, .nili => true
  | .any, .any => true
  | .se, .se => true
  | .mp i, .mp i' => Nat.beq i i'
  | .bs i n, .bs i' n' => (Nat.beq i i').rec false (Nat.beq n n')
  | _, _ => false
theorem beq_ok {a b : Nat} {c : Bool} (h : (Nat.beq a b).rec false c = true) : a = b ∧ c = true := by
  cases hb : Nat.beq a b with
  | false => rw [hb] at h; cases h
  | true => rw [hb] at h; exact ⟨Nat.eq_of_beq_eq_true hb, h⟩
theorem veq0_ok {a b : V} (h : veq0 a b = true) : a = b := by
  unfold veq0 at h
  split at h <;> first | rfl | (cases h; done) | skip
  · rw [eq_of_beq h]
  · rename_i k n k' m
    cases hk : Nat.beq (kno k) (kno k') with
    | false => rw [hk] at h; cases h
    | true => rw [hk] at h; rw [kno_inj hk, of_decide_eq_true ((ieq_eq n m).symm.trans h)]
  · rename_i k n k' m
    cases hk : Nat.beq (kno k) (kno k') with
    | false => rw [hk] at h; cases h
    | true => rw [hk] at h; rw [kno_inj hk, Nat.eq_of_beq_eq_true h]
  · rw [leq_eq] at h; rw [of_decide_eq_true h]
  · obtain ⟨e1, h1⟩ := beq_ok h; rw [e1, Nat.eq_of_beq_eq_true h1]
  · obtain ⟨e1, h1⟩ := beq_ok h; obtain ⟨e2, h2⟩ := beq_ok h1; obtain ⟨e3, h3⟩ := beq_ok h2; rw [e1, e2, e3, Nat.eq_of_beq_eq_true h3]
  · obtain ⟨e1, h1⟩ := beq_ok h; obtain ⟨e2, h2⟩ := beq_ok h1; obtain ⟨e3, h3⟩ := beq_ok h2; rw [e1, e2, e3, Nat.eq_of_beq_eq_true h3]
  · rw [Nat.eq_of_beq_eq_true h]
  · obtain ⟨e1, h1⟩ := beq_ok h; rw [e1, Nat.eq_of_beq_eq_true h1]
noncomputable def all2 (f : V → V → Bool) (a : List V) : List V → Bool := a.rec (fun b => b.rec true (fun _ _ _ => false)) (fun x _ ih b => b.rec false (fun y l _ => (f x y).rec false (ih l)))
theorem all2_ok {f : V → V → Bool} (hf : ∀ {a b}, f a b = true → a = b) : ∀ {a b : List V}, all2 f a b = true → a = b
  | [], [], _ => rfl
  | [], _ :: _, h => by cases h
  | _ :: _, [], h => by cases h
  | x :: a, y :: b, h => by
    have h : (f x y).rec false (all2 f a b) = true := h
    cases hb : f x y with
    | false => rw [hb] at h; cases h
    | true => rw [hb] at h; rw [hf hb, all2_ok hf h]
noncomputable def veq1 : V → V → Bool
  | .ifc t v, .ifc t' v' => (Nat.beq t t').rec false (veq0 v v')
  | .fn t k l, .fn t' k' l' => (Nat.beq t t').rec false ((all2 veq0 k k').rec false (all2 veq0 l l'))
  | a, b => veq0 a b
theorem veq1_ok {a b : V} (h : veq1 a b = true) : a = b := by
  unfold veq1 at h
  split at h
  · obtain ⟨e1, h1⟩ := beq_ok h; rw [e1, veq0_ok h1]
  · obtain ⟨e1, h1⟩ := beq_ok h
    rename_i k l _ k' l'
    cases hk : all2 veq0 k k' with
    | false => rw [hk] at h1; cases h1
    | true => rw [hk] at h1; rw [e1, all2_ok veq0_ok hk, all2_ok veq0_ok h1]
  · exact veq0_ok h
noncomputable def veq : V → V → Bool
  | .agg l, .agg l' => all2 veq1 l l'
  | .tup l, .tup l' => all2 veq1 l l'
  | a, b => veq1 a b
theorem veq_ok {a b : V} (h : veq a b = true) : a = b := by
  unfold veq at h
  split at h
  · rw [all2_ok veq1_ok h]
  · rw [all2_ok veq1_ok h]
  · exact veq1_ok h

/-! ## the run -/
noncomputable def lmem (t : Nat) (l : List Nat) : Bool := l.rec false (fun x _ ih => (Nat.beq x t).rec ih true)
theorem lmem_ok {t : Nat} : ∀ {l : List Nat}, lmem t l = true → t ∈ l
  | [], h => by cases h
  | x :: l, h => by
    have h : (Nat.beq x t).rec (lmem t l) true = true := h
    cases hb : Nat.beq x t with
    | true => rw [Nat.eq_of_beq_eq_true hb]; exact .head _
    | false => rw [hb] at h; exact .tail _ (lmem_ok h)
theorem lmem_of {t : Nat} : ∀ {l : List Nat}, t ∈ l → lmem t l = true
  | x :: l, h => by
    show (Nat.beq x t).rec (lmem t l) true = true
    cases hb : Nat.beq x t with
    | true => rfl
    | false =>
      rcases List.mem_cons.1 h with rfl | h
      · rw [Nat.beq_refl] at hb; cases hb
      · exact lmem_of h
noncomputable def tms (l : List Operand) : List Nat := l.rec [] (fun x _ ih => match x with | .tmp t => t :: ih | _ => ih)
noncomputable def usesO (ops : List Oper) (o : Oper) : List Nat := match o.guard with
  | none => tms o.op.operands.toList
  | some (j, _) => (lget j ops).rec (tms o.op.operands.toList) fun oj => oj.dst.rec (tms o.op.operands.toList) fun t => t :: tms o.op.operands.toList
noncomputable def evU (us : List Nat) (R L : Ls) (x : Operand) : Option V := match x with
  | .tmp t => ck (lmem t us) (lk t R (lk t L none))
  | x => evF R L x
noncomputable def gdU (ops : List Oper) (us : List Nat) (L R : Ls) (o : Oper) : Option Bool := match o.guard with
  | none => some true
  | some (j, want) => ob (lget j ops) fun oj => match oj.dst with
    | none => some false
    | some t => ob (evU us R L (.tmp t)) fun v => match v with
      | .bool b => fB (b == want) fun b => some b
      | .tup _ => some false
      | _ => none
def isPure (o : Op) : Bool := match o with
  | .move _ | .assign _ | .pick .. | .nilCheck _ | .binOp .. | .unOp .. | .convert .. | .makeInterface .. | .makeFunc .. | .slice .. | .fieldAddr .. | .field .. | .indexAddr .. | .index .. | .typeAssert .. | .extract .. | .build .. => true
  | .call c => match c.callee with
    | .builtin .len | .builtin .max | .builtin .min => true
    | _ => false
  | _ => false
/-- Names that wait, laid into the heap. -/
noncomputable def forceL (fs : List (Nat × Nat × O)) : T O → Option (T O) := fs.rec (fun H => some H) (fun x _ ih H => ob (hset H x.2.1 x.2.2) ih)
noncomputable def part {α : Type} (m : Nat) (pf : List (Nat × Nat × O)) (k : List (Nat × Nat × O) → List (Nat × Nat × O) → Option α) : Option α :=
  pf.rec (motive := fun _ => (List (Nat × Nat × O) → List (Nat × Nat × O) → Option α) → Option α) (fun k => k [] []) (fun x _ ih k => (tb m x.1).rec (ih fun a b => k a (x :: b)) (ih fun a b => k (x :: a) b)) k
noncomputable def lbits (m : Nat) (l : List Nat) : Bool := l.rec true (fun x _ ih => (tb m x).rec false ih)

section
variable (P : Program) {M : Type} (cf : CF M) (n : Nat) (ops : List Oper) (L : Ls)
def isPtr : V → Bool
  | .ptr _ _ => true
  | _ => false
noncomputable def eLoadV (s : S M) (t : Nat) (a : V) : Option V := match a with
  | .tup [.mp id, k, .bool ok] => eLookV P s t id k ok
  | .ptr id off => ob (hget s.H id) fun o => ob (rowV o) fun l => partV P t l off
  | _ => none
/-- The state at the run's point. -/
structure DS (M : Type) where
  i : Nat
  R : Ls
  s : S M
  pf : List (Nat × Nat × O)
  nf : Nat
  hl : List Nat
noncomputable def dOp {α : Type} (us : List Nat) (m : Nat) (o : Oper) (x : DS M) (k : Rc M → DS M → Option α) : Option α :=
  ob (gdU ops us L x.R o) fun b => fN (x.i + 1) fun i => b.rec
    (ob (push n o.dst (.tup []) x.R) fun R => k ⟨o.dst, .tup [], .u⟩ ⟨i, R, x.s, x.pf, x.nf, x.hl⟩)
    (match o.op with
      | .load t y => ob (evU us x.R L y) fun a => ck (isPtr a) (ob (eLoadV P x.s t a) fun v => ob (push n o.dst v x.R) fun R => k ⟨o.dst, v, .r t a⟩ ⟨i, R, x.s, x.pf, x.nf, x.hl⟩)
      | .lookup t y j ok => ob (evU us x.R L y) fun a => ob (evU us x.R L j) fun b => ob (eLoadV P x.s t (.tup [a, b, .bool ok])) fun v => ob (push n o.dst v x.R) fun R => k ⟨o.dst, v, .r t (.tup [a, b, .bool ok])⟩ ⟨i, R, x.s, x.pf, x.nf, x.hl⟩
      | .alloc t => ob (zeroT P t) fun z => ob (push n o.dst (.ptr x.nf 0) x.R) fun R => fN (x.nf + 1) fun nf => k ⟨o.dst, .ptr x.nf 0, .b t x.nf (.cells t (cellsV z))⟩ ⟨i, R, x.s, (x.i, x.nf, .cells t (cellsV z)) :: x.pf, nf, x.hl⟩
      | .makeMap _ none => ob (push n o.dst (.mp x.nf) x.R) fun R => fN (x.nf + 1) fun nf => k ⟨o.dst, .mp x.nf, .b 0 x.nf (.map [])⟩ ⟨i, R, x.s, (x.i, x.nf, .map []) :: x.pf, nf, x.hl⟩
      | .buildSlice t len parts => ob (bsC P (evU us x.R L) t len parts) fun ec => ob (push n o.dst (.sl x.nf 0 len len) x.R) fun R => fN (x.nf + 1) fun nf => k ⟨o.dst, .sl x.nf 0 len len, .b t x.nf (.cells ec.1 ec.2)⟩ ⟨i, R, x.s, (x.i, x.nf, .cells ec.1 ec.2) :: x.pf, nf, x.hl⟩
      | op => (isPure op).rec
          (ck (lbits m x.hl) (part m x.pf fun fs pf => ob (forceL fs x.s.H) fun H => ob (sop P cf (evU us x.R L) ⟨H, x.s.nx, x.s.m⟩ op) fun vs => ob (push n o.dst vs.1 x.R) fun R => k ⟨o.dst, vs.1, .h ⟨H, x.s.nx, x.s.m⟩ vs.2⟩ ⟨i, R, vs.2, pf, x.nf, x.i :: x.hl⟩))
          (ob (pop P (evU us x.R L) op) fun v => ob (push n o.dst v x.R) fun R => k ⟨o.dst, v, .p⟩ ⟨i, R, x.s, x.pf, x.nf, x.hl⟩))
/-- The run, and the state where it ends. -/
noncomputable def drun (l : List Oper) : List Nat → DS M → Option (List (Rc M) × DS M) := l.rec (fun _ x => some ([], x))
  (fun o _ ih ms x => match ms with
    | [] => none
    | m :: ms => dOp P cf n ops L (usesO ops o) m o x fun r y => ob (ih ms y) fun z => some (r :: z.1, z.2))
end
end X
end Go.Proofs.YtnkjnclpakfgnaaGreatDoor
