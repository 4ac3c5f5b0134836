/- The executor, 19: regions that draw their order: any order comes to the same. · The executor, 20: regions that draw their order: the whole. No conditions. -/
import Derived.Test.YtnkjnclpakfgnaaGreatDoorMa6
namespace Go.Proofs.YtnkjnclpakfgnaaGreatDoor
namespace X

theorem getD_set {l : Array Bool} {i : Nat} (hi : i < l.size) (j : Nat) : (l.setIfInBounds i true).getD j false = if j = i then true else l.getD j false := by
  rw [Array.getD_eq_getD_getElem?, Array.getD_eq_getD_getElem?, Array.getElem?_setIfInBounds]
  by_cases h : i = j
  · subst h; simp [hi]
  · rw [if_neg h, if_neg (Ne.symm h)]

/-- What the run and the checks have shown. -/
structure Fx (P : Program) {M : Type} (cf : CF M) (n : Nat) (ops : Array Oper) (L : Ls) (ms : List Nat) (rs : List (Rc M)) (s1 : S M) (nf0 : Nat) (y : DS M) : Prop where
  mlen : ms.length = ops.size
  bit : ∀ {i : Nat} {o : Oper} {m j : Nat}, ops[i]? = some o → ms[i]? = some m → tb m j = true → ∃ e ∈ o.after.toList, bindsA e = true ∧ (j = e.on ∨ ∃ m', ms[e.on]? = some m' ∧ tb m' j = true)
  low : ∀ {i m j : Nat}, ms[i]? = some m → tb m j = true → j < i
  ed : ∀ {j : Nat} {o : Oper}, ops[j]? = some o → ∀ e ∈ o.after.toList, bindsA e = true → e.on < j
  ssa : ∀ {i j : Nat} {o o' : Oper} {m : Nat}, i < j → ops[i]? = some o → ops[j]? = some o' → ms[j]? = some m → conf o.dst (usesO ops.toList o) o'.dst (usesO ops.toList o') = true → tb m i = true
  len : rs.length = ops.size
  cond : ∀ {i : Nat} {o : Oper} {r : Rc M}, ops[i]? = some o → rs[i]? = some r → ∃ m, ms[i]? = some m ∧ Cond P cf n ops.toList L rs ms s1 i o m r
  D : DI rs ms s1 nf0 y
  yi : y.i = ops.size
  nfle : y.nf ≤ s1.nx
  rd : ∀ {i : Nat} {r : Rc M} {m t : Nat} {a : V} {c : Nat}, rs[i]? = some r → ms[i]? = some m → r.c = .r t a → (c = 0 ∨ ∃ (h : Nat) (r' : Rc M), rs[h]? = some r' ∧ isH r' = true ∧ c = h + 1) →
    (∀ (j : Nat) (r' : Rc M) (mj : Nat), rs[j]? = some r' → isH r' = true → ms[j]? = some mj → ¬ (c ≤ j ∧ tb m j = true) ∧ ¬ (j < c ∧ tb mj i = true)) → eLoadV P (stF s1 rs c) t a = some r.v

section
variable {P : Program} {I : Inv} {cf : CF I.M} {n : Nat} {ops : Array Oper} {L : Ls} {ms : List Nat} {rs : List (Rc I.M)} {s1 : S I.M} {nf0 : Nat} {y : DS I.M}

/-- A block waits, of those that no heavy operation so far has taken in. -/
def Waits (ms : List Nat) (rs : List (Rc I.M)) (T : Nat → Bool) (i : Nat) : Prop := T i = true ∧ ∀ (j : Nat) (r : Rc I.M) (m : Nat), rs[j]? = some r → isH r = true → ms[j]? = some m → T j = true → tb m i = false

/-- Whatever has come up so far. -/
structure Iv (n : Nat) (ops : Array Oper) (L : Ls) (ms : List Nat) (rs : List (Rc I.M)) (s1 : S I.M) (nf0 : Nat) (K : Keep) (E0 : Env) (a0 : Act) (listed : Array Bool) (a : Act) (w : World) (E : Env) (K' : Keep) (c : Nat) : Prop where
  sz : listed.size = ops.size
  cl : ∀ {i m j : Nat}, listed.getD i false = true → ms[i]? = some m → tb m j = true → listed.getD j false = true
  as : a.tmps.size = n
  df : a.defers = a0.defers
  le : E0.le E
  top : s1.nx ≤ E.top
  kle : K.le K'
  cut : ∀ {j : Nat} {r : Rc I.M}, rs[j]? = some r → isH r = true → (listed.getD j false = true ↔ j < c)
  cv : c = 0 ∨ ∃ (h : Nat) (r' : Rc I.M), rs[h]? = some r' ∧ isH r' = true ∧ c = h + 1
  sim : Sim I K' E (stF s1 rs c).H (stF s1 rs c).nx (stF s1 rs c).m w
  tm : ∀ {t : Nat} {v : V}, (lkS (fun i => listed.getD i false) t rs 0).or (lk t L none) = some v → t < n ∧ VR E v (a.tmps.getD t undef)
  fl1 : ∀ {i : Nat} {r : Rc I.M} {t id : Nat} {o : O}, rs[i]? = some r → r.c = .b t id o → Waits ms rs (fun i => listed.getD i false) i → ∃ b cc x, E.blk id = some (b, cc) ∧ K'.G b = some x ∧ OR E o cc x ∧ K.G b = none
  fl0 : ∀ {i : Nat} {r : Rc I.M} {t id : Nat} {o : O}, rs[i]? = some r → r.c = .b t id o → listed.getD i false = false → E.blk id = none
  flu : ∀ {i i' : Nat} {r r' : Rc I.M} {t id t' id' : Nat} {o o' : O} {b : Nat} {cc cc' : Nat × Nat}, rs[i]? = some r → r.c = .b t id o → rs[i']? = some r' → r'.c = .b t' id' o' → i ≠ i' →
    Waits ms rs (fun i => listed.getD i false) i → Waits ms rs (fun i => listed.getD i false) i' → E.blk id = some (b, cc) → E.blk id' = some (b, cc') → False

section
variable {K : Keep} {E0 : Env} {a0 : Act} {listed : Array Bool} {a : Act} {w : World} {E : Env} {K' : Keep} {c i : Nat} {o : Oper} {r : Rc I.M} {m : Nat}
variable (F : Fx P cf n ops L ms rs s1 nf0 y) (V' : Iv n ops L ms rs s1 nf0 K E0 a0 listed a w E K' c) (ho : ops[i]? = some o) (hr : rs[i]? = some r) (hm : ms[i]? = some m) (hnot : listed.getD i false = false) (hin : ∀ j, tb m j = true → listed.getD j false = true)
include F V' ho hr hm hnot hin

/-- All that writes what the operation looks at is there just if it stands ahead. -/
theorem seen {t : Nat} (ht : t ∈ usesO ops.toList o) : lkS (fun j => decide (j < i)) t rs 0 = lkS (fun j => listed.getD j false) t rs 0 := by
  refine lkS_congr fun j r' hj hd => ?_
  simp only [Nat.zero_add]
  have hjl : j < ops.size := by rw [← F.len]; exact (List.getElem?_eq_some_iff.1 hj).1
  have hoj : ops[j]? = some ops[j] := Array.getElem?_eq_getElem hjl
  obtain ⟨mj, hmj, cj⟩ := F.cond hoj hj
  have hdj : ops[j].dst = some t := by rw [← cj.1]; exact hd
  rcases Nat.lt_trichotomy j i with hlt | rfl | hgt
  · have := F.ssa hlt hoj ho hm (by rw [hdj]; exact conf_write (.inl ht))
    rw [hin j this]; simpa using hlt
  · rw [hnot]; simp
  · have := F.ssa hgt ho hoj hmj (by rw [hdj]; exact conf_read ht)
    have h2 : listed.getD j false = false := by
      cases h3 : listed.getD j false with
      | false => rfl
      | true => rw [V'.cl h3 hmj this] at hnot; cases hnot
    rw [h2]; simp; omega

theorem evU_ok {x : Operand} {v : V} (hx : evU (usesO ops.toList o) (Rof [] (rs.take i)) L x = some v) : VR E v (a.eval x) ∧ ∀ t, x = .tmp t → t < n := by
  cases x with
  | tmp t =>
    obtain ⟨h1, h2⟩ := ck_eq hx
    rw [lk_app, lk_Rof t (rs.take i) [] L 0, lkS_take, Nat.zero_add, seen F V' ho hr hm hnot hin (lmem_ok h1), List.nil_append] at h2
    obtain ⟨h3, h4⟩ := V'.tm h2
    exact ⟨h4, fun t' e => by cases e; exact h3⟩
  | const c => exact ⟨ofValue_ok hx, fun t e => by cases e⟩
  | global g =>
    obtain ⟨h1, h2⟩ := ck_eq hx
    cases h2
    obtain ⟨c, hc⟩ := V'.sim.glob g (Nat.le_of_ble_eq_true h1)
    exact ⟨.ptr hc, fun t e => by cases e⟩
  | func f => cases hx; exact ⟨VRs.fn (F := #[]) (L := #[]) .nil .nil, fun t e => by cases e⟩

theorem gdU_ok {b : Bool} (h : gdU ops.toList (usesO ops.toList o) L (Rof [] (rs.take i)) o = some b) : Region.wanted o (yielded ops a.tmps) = b := by
  unfold gdU at h
  unfold Region.wanted
  split at h
  · rename_i hg; cases h; simp [hg]
  · rename_i j want hg
    simp only [hg]
    obtain ⟨oj, hoj, h1⟩ := ob_eq h
    clear h
    rw [lget_eq] at hoj
    have hoj : ops[j]? = some oj := by simpa using hoj
    unfold yielded
    split at h1
    · rename_i hd; cases h1; simp [hoj, hd]
    · rename_i t hd
      obtain ⟨v, hv, h2⟩ := ob_eq h1
      clear h1
      obtain ⟨k2, k1⟩ := evU_ok F V' ho hr hm hnot hin hv
      have k1 := k1 t rfl
      have h3 : t < a.tmps.size := by rw [V'.as]; exact k1
      have h4 : a.tmps[t]? = some (a.tmps.getD t undef) := by simp [Array.getD, h3]
      clear hv
      have k2 : VR E v (a.tmps.getD t undef) := k2
      generalize a.tmps.getD t undef = W at *
      simp only [hoj, hd, h4, Option.bind_some]
      cases k2 with
      | bool b' =>
        have h2 : fB (b' == want) (fun b => some b) = some b := h2
        rw [fB_eq] at h2
        have h2 := Option.some.inj h2
        rw [← h2]; cases b' <;> cases want <;> rfl
      | tup _ _ => cases h2; rfl
      | _ => cases h2

omit hin in
/-- The temporaries, one more written. -/
theorem tm_step {E' : Env} {W : Value} (hs : E.sub E') (hv : VR E' r.v W) {t : Nat} {v : V} (h : (lkS (fun j => (listed.setIfInBounds i true).getD j false) t rs 0).or (lk t L none) = some v) :
    t < n ∧ VR E' v ((a.put o.dst W).tmps.getD t undef) := by
  have hil : i < listed.size := by rw [V'.sz]; exact (Array.getElem?_eq_some_iff.1 ho).1
  obtain ⟨m', hm', hc⟩ := F.cond ho hr
  have hrd := hc.1
  by_cases hd : o.dst = some t
  · have hlast : lkS (fun j => (listed.setIfInBounds i true).getD j false) t rs 0 = some r.v := by
      refine lkS_last hr (by rw [hrd, hd]) (by simp only [Nat.zero_add]; rw [getD_set hil, if_pos rfl]) fun j r' hj hdj hij => ?_
      simp only [Nat.zero_add]
      rw [getD_set hil, if_neg (by omega)]
      have hjl : j < ops.size := by rw [← F.len]; exact (List.getElem?_eq_some_iff.1 hj).1
      have hoj : ops[j]? = some ops[j] := Array.getElem?_eq_getElem hjl
      obtain ⟨mj, hmj, cj⟩ := F.cond hoj hj
      have hdj' : ops[j].dst = some t := by rw [← cj.1]; exact hdj
      have hb := F.ssa hij ho hoj hmj (by rw [hd]; exact conf_write (.inr hdj'))
      cases h3 : listed.getD j false with
      | false => rfl
      | true => rw [V'.cl h3 hmj hb] at hnot; cases hnot
    rw [hlast] at h
    cases h
    have htn := hc.2.1 t hd
    refine ⟨htn, ?_⟩
    have : t < a.tmps.size := by rw [V'.as]; exact htn
    rw [hd]
    simpa [Act.put, Array.getD, this] using hv
  · have hsame : lkS (fun j => (listed.setIfInBounds i true).getD j false) t rs 0 = lkS (fun j => listed.getD j false) t rs 0 := by
      refine lkS_congr fun j r' hj hdj => ?_
      simp only [Nat.zero_add]
      rw [getD_set hil, if_neg]
      rintro rfl
      rw [hr] at hj; cases hj; rw [hrd] at hdj; exact hd hdj
    rw [hsame] at h
    obtain ⟨h1, h2⟩ := V'.tm h
    refine ⟨h1, ?_⟩
    have h3 : t < a.tmps.size := by rw [V'.as]; exact h1
    have : (a.put o.dst W).tmps.getD t undef = a.tmps.getD t undef := by
      cases hd' : o.dst with
      | none => rfl
      | some d =>
        have hne : d ≠ t := fun e => hd (by rw [hd', e])
        simp [Act.put, Array.getD, h3, Array.getElem_setIfInBounds_ne, hne]
    rw [this]; exact h2.mono' hs

omit F hr hm hnot hin in
/-- The index as it is. -/
theorem in_ok {j : Nat} : (listed.setIfInBounds i true).getD j false = if j = i then true else listed.getD j false := getD_set (by rw [V'.sz]; exact (Array.getElem?_eq_some_iff.1 ho).1) j

omit F in
theorem cl_step {i' m' j : Nat} (h : (listed.setIfInBounds i true).getD i' false = true) (hm' : ms[i']? = some m') (hb : tb m' j = true) : (listed.setIfInBounds i true).getD j false = true := by
  rw [in_ok V' ho] at h ⊢
  by_cases hj : j = i
  · rw [if_pos hj]
  · rw [if_neg hj]
    by_cases hi : i' = i
    · subst hi; rw [hm] at hm'; cases hm'; exact hin j hb
    · rw [if_neg hi] at h; exact V'.cl h hm' hb

omit F hr hm hnot hin in
theorem waits_back {i' : Nat} (hne : i' ≠ i) (h : Waits ms rs (fun j => (listed.setIfInBounds i true).getD j false) i') : Waits ms rs (fun j => listed.getD j false) i' := by
  refine ⟨?_, fun j r' m' a1 a2 a3 a4 => h.2 j r' m' a1 a2 a3 ?_⟩
  · have := h.1; dsimp only at this; rwa [in_ok V' ho, if_neg hne] at this
  · dsimp only at a4 ⊢; rw [in_ok V' ho]; split
    · rfl
    · exact a4
omit F hr hm hnot hin in
theorem not_back {i' : Nat} (h : (listed.setIfInBounds i true).getD i' false = false) : i' ≠ i ∧ listed.getD i' false = false := by
  rw [in_ok V' ho] at h
  by_cases hi : i' = i
  · rw [if_pos hi] at h; cases h
  · rw [if_neg hi] at h; exact ⟨hi, h⟩

/-- Nothing but a value has come. -/
theorem iv_light {W : Value} (hh : isH r = false) (hb : ∀ t id ob, r.c ≠ .b t id ob) (hv : VR E r.v W) : Iv n ops L ms rs s1 nf0 K E0 a0 (listed.setIfInBounds i true) (a.put o.dst W) w E K' c := by
  have hne : ∀ {i' r' t id ob}, rs[i']? = some r' → r'.c = .b t id ob → i' ≠ i := fun h1 h2 e => by subst e; rw [hr] at h1; cases h1; exact hb _ _ _ h2
  refine { V' with sz := by rw [Array.size_setIfInBounds]; exact V'.sz, cl := cl_step V' ho hr hm hnot hin, as := ?_, df := by rw [put_defers]; exact V'.df, cut := fun {j r'} h1 h2 => ?_, tm := fun h => tm_step F V' ho hr hm hnot (Env.le.refl E).sub hv h
                   fl1 := fun h1 h2 h3 => V'.fl1 h1 h2 (waits_back V' ho (hne h1 h2) h3), fl0 := fun h1 h2 h3 => V'.fl0 h1 h2 (not_back V' ho h3).2
                   flu := fun h1 h2 h3 h4 h5 h6 h7 => V'.flu h1 h2 h3 h4 h5 (waits_back V' ho (hne h1 h2) h6) (waits_back V' ho (hne h3 h4) h7) }
  · cases hd : o.dst with
    | none => exact V'.as
    | some d => simpa [Act.put] using V'.as
  · rw [in_ok V' ho]
    have : j ≠ i := fun e => by subst e; rw [hr] at h1; cases h1; rw [hh] at h2; cases h2
    rw [if_neg this]; exact V'.cut h1 h2

/-- A block that waits has come. -/
theorem iv_float {t id : Nat} {oo : O} {ob : Obj} (h0 : E0.top ≤ nf0) (hc : r.c = .b t id oo) {W : Value} (hv : ∀ {E' : Env}, E'.blk id = some (w.heap.size, (0, 0)) → VR E' r.v W) (hob : OR (E.bindF id w.heap.size (0, 0)) oo (0, 0) ob) :
    Iv n ops L ms rs s1 nf0 K E0 a0 (listed.setIfInBounds i true) (a.put o.dst W) (w.alloc ob) (E.bindF id w.heap.size (0, 0)) (K'.add w.heap.size ob) c := by
  have hil : i < y.i := by rw [F.yi]; exact (Array.getElem?_eq_some_iff.1 ho).1
  have hid := F.D.nf.2 i r t id oo hil hr hc
  have hE : E.blk id = none := V'.fl0 hr hc hnot
  have hsub : E.sub (E.bindF id w.heap.size (0, 0)) := Env.sub_bindF hE
  have hlt : ∀ {b : Nat} {x : Obj}, K'.G b = some x → b ≠ w.heap.size := fun hb e => by have := V'.sim.frame hb; rw [e, Array.getElem?_eq_none (Nat.le_refl _)] at this; cases this
  have hidne : ∀ {i' r' t' id' o'}, rs[i']? = some r' → r'.c = .b t' id' o' → i' ≠ i → id' ≠ id := fun {i' r' t' id' o'} h1 h2 hne e => by
    have hi' : i' < y.i := by rw [F.yi, ← F.len]; exact (List.getElem?_eq_some_iff.1 h1).1
    rcases Nat.lt_or_gt_of_ne hne with h | h
    · have := F.D.un i' i r' r t' id' t id o' oo h hil h1 hr h2 hc; omega
    · have := F.D.un i i' r r' t id t' id' oo o' h hi' hr h1 hc h2; omega
  have hh : isH r = false := by unfold isH; rw [hc]
  refine { sz := by rw [Array.size_setIfInBounds]; exact V'.sz, cl := cl_step V' ho hr hm hnot hin, as := ?_, df := by rw [put_defers]; exact V'.df, le := ?_, top := V'.top, kle := ?_, cut := fun {j r'} h1 h2 => ?_, cv := V'.cv, sim := ?_
           tm := fun h => tm_step F V' ho hr hm hnot hsub (hv (Env.bindF_self ..)) h, fl1 := fun {i' r' t' id' o'} h1 h2 h3 => ?_, fl0 := fun {i' r' t' id' o'} h1 h2 h3 => ?_, flu := fun {i1 i2 r1 r2 t1 id1 t2 id2 o1 o2 b cc cc'} h1 h2 h3 h4 h5 h6 h7 e1 e2 => ?_ }
  · cases hd : o.dst with
    | none => exact V'.as
    | some d => simpa [Act.put] using V'.as
  · refine ⟨fun h => hsub.blk (V'.le.blk h), V'.le.sy, V'.le.top, fun {x} h1 h2 => ?_⟩
    rw [Env.bindF_ne (by omega)]; exact V'.le.new h1 h2
  · refine { V'.kle with G := fun {b x} hb => ?_ }
    have := V'.kle.G hb
    show (if b = w.heap.size then some ob else K'.G b) = some x
    rw [if_neg (hlt this)]; exact this
  · rw [in_ok V' ho]
    have : j ≠ i := fun e => by subst e; rw [hr] at h1; cases h1; rw [hh] at h2; cases h2
    rw [if_neg this]; exact V'.cut h1 h2
  · refine V'.sim.float ?_ hE
    have h5 := V'.sim.top; have h6 := V'.top; have h7 := F.nfle; omega
  · by_cases hi : i' = i
    · subst hi
      rw [hr] at h1; cases h1; rw [hc] at h2; cases h2
      refine ⟨_, _, ob, Env.bindF_self .., ?_, hob, ?_⟩
      · show (if w.heap.size = w.heap.size then some ob else _) = some ob; rw [if_pos rfl]
      · cases hx : K.G w.heap.size with
        | none => rfl
        | some x => exact absurd rfl (hlt (V'.kle.G hx))
    · obtain ⟨b, cc, x, e1, e2, e3, e4⟩ := V'.fl1 h1 h2 (waits_back V' ho hi h3)
      refine ⟨b, cc, x, hsub.blk e1, ?_, e3.mono' hsub, e4⟩
      show (if b = w.heap.size then some ob else K'.G b) = some x
      rw [if_neg (hlt e2)]; exact e2
  · obtain ⟨hne, h4⟩ := not_back V' ho h3
    rw [Env.bindF_ne (hidne h1 h2 hne)]; exact V'.fl0 h1 h2 h4
  · by_cases hi1 : i1 = i
    · subst hi1
      rw [hr] at h1; cases h1; rw [hc] at h2; cases h2
      rw [Env.bindF_self] at e1; cases e1
      have hne2 : i2 ≠ i1 := Ne.symm h5
      rw [Env.bindF_ne (hidne h3 h4 hne2)] at e2
      obtain ⟨b, cc, x, q1, q2, _⟩ := V'.fl1 h3 h4 (waits_back V' ho hne2 h7)
      rw [q1] at e2; cases e2; exact hlt q2 rfl
    · rw [Env.bindF_ne (hidne h1 h2 hi1)] at e1
      by_cases hi2 : i2 = i
      · subst hi2
        rw [hr] at h3; cases h3; rw [hc] at h4; cases h4
        rw [Env.bindF_self] at e2; cases e2
        obtain ⟨b, cc, x, q1, q2, _⟩ := V'.fl1 h1 h2 (waits_back V' ho hi1 h6)
        rw [q1] at e1; cases e1; exact hlt q2 rfl
      · rw [Env.bindF_ne (hidne h3 h4 hi2)] at e2
        exact V'.flu h1 h2 h3 h4 h5 (waits_back V' ho hi1 h6) (waits_back V' ho hi2 h7) e1 e2

omit F ho hr hm hnot hin in
/-- Blocks that wait are taken in. -/
theorem adopt_all {s2 : S I.M} : ∀ {fs : List (Nat × Nat × O)} {H H' : T O} {K1 : Keep} {done : List Nat}, forceL fs H = some H' → (fs.map (·.1)).Nodup → K.le K1 → Sim I K1 E H s2.nx s2.m w →
    (∀ f ∈ fs, (∃ (r' : Rc I.M) (t : Nat), rs[f.1]? = some r' ∧ r'.c = .b t f.2.1 f.2.2) ∧ Waits ms rs (fun j => listed.getD j false) f.1 ∧ f.1 ∉ done) →
    (∀ {i : Nat} {r : Rc I.M} {t id : Nat} {o : O}, rs[i]? = some r → r.c = .b t id o → Waits ms rs (fun j => listed.getD j false) i → i ∉ done → ∃ b cc x, E.blk id = some (b, cc) ∧ K1.G b = some x ∧ OR E o cc x ∧ K.G b = none) →
    ∃ K2, K.le K2 ∧ Sim I K2 E H' s2.nx s2.m w ∧ ∀ {i : Nat} {r : Rc I.M} {t id : Nat} {o : O}, rs[i]? = some r → r.c = .b t id o → Waits ms rs (fun j => listed.getD j false) i → i ∉ done → i ∉ fs.map (·.1) →
      ∃ b cc x, E.blk id = some (b, cc) ∧ K2.G b = some x ∧ OR E o cc x ∧ K.G b = none
  | [], H, H', K1, done, h, _, hk, hs, _, hw => by
    cases h
    exact ⟨K1, hk, hs, fun h1 h2 h3 h4 _ => hw h1 h2 h3 h4⟩
  | f :: fs, H, H', K1, done, h, hnd, hk, hs, hf, hw => by
    obtain ⟨H1, hH1, h⟩ := ob_eq (o := hset H f.2.1 f.2.2) h
    obtain ⟨⟨rf, tf, hrf, hcf⟩, hwf, hdf⟩ := hf f (.head _)
    obtain ⟨b, cc, x, e1, e2, e3, e4⟩ := hw hrf hcf hwf hdf
    have hnd' := List.nodup_cons.1 hnd
    have hk0 : ∀ {b' : Nat} {x' : Obj}, K.G b' = some x' → (K1.del b).G b' = some x' := fun {b' x'} hb => by
      show (if b' = b then none else K1.G b') = some x'
      rw [if_neg (fun e => by rw [e, e4] at hb; cases hb)]; exact hk.G hb
    have hk1 : K.le (K1.del b) := { hk with G := hk0 }
    obtain ⟨K2, q1, q2, q3⟩ := adopt_all (done := f.1 :: done) h hnd'.2 hk1 (hs.adopt e2 e1 e3 hH1) (fun g hg => by
      obtain ⟨a1, a2, a3⟩ := hf g (.tail _ hg)
      refine ⟨a1, a2, fun hmem => ?_⟩
      rcases List.mem_cons.1 hmem with e | hmem
      · exact hnd'.1 (List.mem_map.2 ⟨g, hg, e⟩)
      · exact a3 hmem) (fun {i r t id o} h1 h2 h3 h4 => by
      have hne : i ≠ f.1 := fun e => h4 (by rw [e]; exact .head _)
      obtain ⟨b', cc', x', a1, a2, a3, a4⟩ := hw h1 h2 h3 (fun hm => h4 (.tail _ hm))
      refine ⟨b', cc', x', a1, ?_, a3, a4⟩
      show (if b' = b then none else K1.G b') = some x'
      rw [if_neg]
      · exact a2
      · rintro rfl
        exact V'.flu h1 h2 hrf hcf hne h3 hwf a1 e1)
    refine ⟨K2, q1, q2, fun {i r t id o} h1 h2 h3 h4 h5 => q3 h1 h2 h3 (fun hmem => ?_) (fun hmem => h5 (.tail _ hmem))⟩
    rcases List.mem_cons.1 hmem with e | hmem
    · exact h5 (by rw [e]; exact .head _)
    · exact h4 hmem

/-- A heavy operation comes behind all the heavy ones ahead of it. -/
theorem chain {pre post : S I.M} (hc : r.c = .h pre post) {j : Nat} {r' : Rc I.M} (hj : rs[j]? = some r') (hh : isH r' = true) : (j < i → listed.getD j false = true) ∧ (i < j → listed.getD j false = false) := by
  obtain ⟨m', hm', cc⟩ := F.cond ho hr
  rw [hm] at hm'; cases hm'
  refine ⟨fun hlt => ?_, fun hgt => ?_⟩
  · have := cc.2.2
    rw [hc] at this
    exact hin j (this.2.1 j r' hlt hj hh)
  · have hjl : j < ops.size := by rw [← F.len]; exact (List.getElem?_eq_some_iff.1 hj).1
    obtain ⟨mj, hmj, cj⟩ := F.cond (Array.getElem?_eq_getElem hjl) hj
    have hcj : ∃ p q, r'.c = .h p q := by
      unfold isH at hh; split at hh
      · exact ⟨_, _, ‹_›⟩
      · cases hh
    obtain ⟨p, q, hcj⟩ := hcj
    have := cj.2.2
    rw [hcj] at this
    have hb := this.2.1 i r hgt hr (by unfold isH; rw [hc])
    cases h3 : listed.getD j false with
    | false => rfl
    | true => rw [V'.cl h3 hmj hb] at hnot; cases hnot

/-- A heavy operation has come. -/
theorem iv_heavy {pre post : S I.M} (hc : r.c = .h pre post) : ∃ K2, K.le K2 ∧ Sim I K2 E pre.H pre.nx pre.m w ∧ ∀ {W : Value} {E2 : Env} {w2 : World}, E.le E2 → VR E2 r.v W → Sim I K2 E2 post.H post.nx post.m w2 →
    Iv n ops L ms rs s1 nf0 K E0 a0 (listed.setIfInBounds i true) (a.put o.dst W) w2 E2 K2 (i + 1) := by
  obtain ⟨m', hm', cc⟩ := F.cond ho hr
  rw [hm] at hm'; cases hm'
  have cc2 := cc.2.2
  rw [hc] at cc2
  obtain ⟨_, c2, c3, fs, f1, f2, f3, f4, f5⟩ := cc2
  have hH : isH r = true := by unfold isH; rw [hc]
  have hst : stF s1 rs i = stF s1 rs c := by
    rcases Nat.le_total c i with hci | hci
    · refine (stF_same hci fun k r' hk hck hki => ?_).symm
      cases hh : isH r' with
      | false => rfl
      | true =>
        have := (chain F V' ho hr hm hnot hin hc hk hh).1 hki
        have := (V'.cut hk hh).1 this; omega
    · refine stF_same hci fun k r' hk hik hkc => ?_
      cases hh : isH r' with
      | false => rfl
      | true =>
        have h1 := (V'.cut hk hh).2 hkc
        rcases Nat.lt_or_eq_of_le hik with hlt | rfl
        · rw [(chain F V' ho hr hm hnot hin hc hk hh).2 hlt] at h1; cases h1
        · rw [hnot] at h1; cases h1
  have hwait : ∀ f ∈ fs, Waits ms rs (fun j => listed.getD j false) f.1 := fun f hf => by
    obtain ⟨a1, a2, a3⟩ := f5 f hf
    refine ⟨hin f.1 a2, fun j r' mj b1 b2 b3 b4 => a3 j r' mj ?_ b1 b2 b3⟩
    rcases Nat.lt_trichotomy j i with h | rfl | h
    · exact h
    · dsimp only at b4; rw [hnot] at b4; cases b4
    · have := (chain F V' ho hr hm hnot hin hc b1 b2).2 h
      dsimp only at b4; rw [this] at b4; cases b4
  obtain ⟨K2, k1, k2, k3⟩ := adopt_all (s2 := stF s1 rs c) V' (done := []) (by rw [← hst]; exact f1) f4 V'.kle V'.sim (fun f hf => ⟨(f5 f hf).1, hwait f hf, by simp⟩) (fun h1 h2 h3 _ => V'.fl1 h1 h2 h3)
  refine ⟨K2, k1, by rw [f2, f3, hst]; exact k2, fun {W E2 w2} hle hv hs => ?_⟩
  have hne : ∀ {i' r' t id ob}, rs[i']? = some r' → r'.c = .b t id ob → i' ≠ i := fun h1 h2 e => by subst e; rw [hr] at h1; cases h1; rw [hc] at h2; cases h2
  have hwi : (listed.setIfInBounds i true).getD i false = true := by rw [in_ok V' ho, if_pos rfl]
  refine { sz := by rw [Array.size_setIfInBounds]; exact V'.sz, cl := cl_step V' ho hr hm hnot hin, as := ?_, df := by rw [put_defers]; exact V'.df, le := V'.le.trans hle, top := Nat.le_trans V'.top hle.top, kle := k1
           cut := fun {j r'} h1 h2 => ?_, cv := .inr ⟨i, r, hr, hH, rfl⟩, sim := by rw [stF_succ hr, hc]; exact hs, tm := fun h => tm_step F V' ho hr hm hnot hle.sub hv h
           fl1 := fun {i' r' t' id' o'} h1 h2 h3 => ?_, fl0 := fun {i' r' t' id' o'} h1 h2 h3 => ?_, flu := fun {i1 i2 r1 r2 t1 id1 t2 id2 o1 o2 b cc cc'} h1 h2 h3 h4 h5 h6 h7 e1 e2 => ?_ }
  · cases hd : o.dst with
    | none => exact V'.as
    | some d => simpa [Act.put] using V'.as
  · rw [in_ok V' ho]
    by_cases hj : j = i
    · rw [if_pos hj]; simp [hj]
    · rw [if_neg hj]
      obtain ⟨a1, a2⟩ := chain F V' ho hr hm hnot hin hc h1 h2
      constructor
      · intro h
        rcases Nat.lt_or_ge j (i + 1) with h' | h'
        · exact h'
        · rw [a2 (by omega)] at h; cases h
      · intro h; exact a1 (by omega)
  · have hi := hne h1 h2
    have hw := waits_back V' ho hi h3
    obtain ⟨b, cc, x, q1, q2, q3, q4⟩ := k3 h1 h2 hw (by simp) (fun hmem => by
      obtain ⟨f, hf, rfl⟩ := List.mem_map.1 hmem
      have := (f5 f hf).2.1
      rw [h3.2 i r m hr hH hm hwi] at this; cases this)
    exact ⟨b, cc, x, hle.blk q1, q2, q3.mono hle, q4⟩
  · obtain ⟨_, h4⟩ := not_back V' ho h3
    refine hle.new (V'.fl0 h1 h2 h4) ?_
    have hi' : i' < y.i := by rw [F.yi, ← F.len]; exact (List.getElem?_eq_some_iff.1 h1).1
    have := F.D.nf.2 i' r' t' id' o' hi' h1 h2
    have h6 := V'.top; have h7 := F.nfle; omega
  · have w1 := waits_back V' ho (hne h1 h2) h6
    have w2 := waits_back V' ho (hne h3 h4) h7
    obtain ⟨b1, c1, _, q1, _⟩ := V'.fl1 h1 h2 w1
    obtain ⟨b2, c2, _, q2, _⟩ := V'.fl1 h3 h4 w2
    have := hle.blk q1; rw [e1] at this; cases this
    have := hle.blk q2; rw [e2] at this; cases this
    exact V'.flu h1 h2 h3 h4 h5 w1 w2 q1 q2

/-- The operation comes up. -/
theorem op_ok (hP : Plain P) (hcf : CallOk I P cf) (h0 : E0.top ≤ nf0) {Q : Exit → Act → World → Prop} {next : Act → World → Prop}
    (hn : ∀ a' w' E' K2 c', Iv n ops L ms rs s1 nf0 K E0 a0 (listed.setIfInBounds i true) a' w' E' K2 c' → next a' w') : wpOp P ops Q i next a w := by
  obtain ⟨m', hm', cc⟩ := F.cond ho hr
  rw [hm] at hm'; cases hm'
  have cc2 := cc.2.2
  unfold wpOp
  simp only [ho]
  have hev : ∀ {x : Operand} {v : V}, evU (usesO ops.toList o) (Rof [] (rs.take i)) L x = some v → VR E v (a.eval x) := fun hx => (evU_ok F V' ho hr hm hnot hin hx).1
  cases hc : r.c with
  | u =>
    rw [hc] at cc2
    rw [gdU_ok F V' ho hr hm hnot hin cc2.1, if_neg (by simp)]
    exact hn _ _ E K' c (iv_light F V' ho hr hm hnot hin (by unfold isH; rw [hc]) (by simp [hc]) (by rw [cc2.2]; exact VRs.tup .nil))
  | p =>
    rw [hc] at cc2
    rw [gdU_ok F V' ho hr hm hnot hin cc2.1, if_pos rfl]
    left
    obtain ⟨W, h1, h2⟩ := pop_ok hev cc2.2 w
    unfold Oper.wp
    rw [h1]
    exact hn _ _ E K' c (iv_light F V' ho hr hm hnot hin (by unfold isH; rw [hc]) (by simp [hc]) h2)
  | r t av =>
    rw [hc] at cc2
    rw [gdU_ok F V' ho hr hm hnot hin cc2.1, if_pos rfl]
    left
    have hrd0 := cc2.2
    have hrd := F.rd hr hm hc V'.cv (fun j r' mj h1 h2 h3 => ⟨fun h4 => by have := (V'.cut h1 h2).1 (hin j h4.2); omega, fun h4 => by
      have h5 := V'.cl ((V'.cut h1 h2).2 h4.1) h3 h4.2
      rw [hnot] at h5; cases h5⟩)
    rcases hrd0 with ⟨x, hop, hx, hpt⟩ | ⟨x, j, ok, u, k, hop, hx, hk, rfl⟩
    rotate_left
    · have ru := hev hx
      cases u with
      | mp id =>
        have hl : eLookV P (stF s1 rs c) t id k ok = some r.v := hrd
        obtain ⟨W, h1, h2⟩ := eLookV_ok (P := P) V'.sim hP.pair hl ru (hev hk)
        have hrun : (execOp a.eval o).run P w = .ok (.value W) w := by
          simp [execOp, hop, h1]
        unfold Oper.wp
        rw [hrun]
        exact hn _ _ E K' c (iv_light F V' ho hr hm hnot hin (by unfold isH; rw [hc]) (by simp [hc]) h2)
      | _ => cases hrd
    cases av <;> first | (cases hpt; done) | skip
    rename_i pid poff
    have hl : eLoad P (fun _ => some (.ptr pid poff)) (stF s1 rs c) t x = some r.v := hrd
    obtain ⟨W, h1, h2⟩ := eLoad_ok (P := P) (ρ := fun _ => a.eval x) (fun {_ v} hv => by cases hv; exact hev hx) V'.sim hl
    have hrun : (execOp a.eval o).run P w = .ok (.value W) w := by
      have h1 : (Instr.loadAt t (a.eval x)).run P w = .ok W w := h1
      simp [execOp, hop, h1]
    unfold Oper.wp
    rw [hrun]
    exact hn _ _ E K' c (iv_light F V' ho hr hm hnot hin (by unfold isH; rw [hc]) (by simp [hc]) h2)
  | b t id oo =>
    rw [hc] at cc2
    obtain ⟨g1, ⟨hop, hv, z, hz, hoo⟩ | ⟨⟨t', hop⟩, hv, hoo⟩ | ⟨len, parts, e, cs, hop, hec, hv, hoo⟩⟩ := cc2
    · rw [gdU_ok F V' ho hr hm hnot hin g1, if_pos rfl]
      left
      obtain ⟨Z, h1, h2⟩ := zeroT_ok (E := E) hz
      have hrun : (execOp a.eval o).run P w = .ok (.value (.pointer (some ⟨w.heap.size, 0, none⟩))) (w.alloc (.cells Z.cells t)) := by
        simp [execOp, hop, Instr.alloc, h1, newVar, newRow]
      have hE : E.blk id = none := V'.fl0 hr hc hnot
      unfold Oper.wp
      rw [hrun]
      exact hn _ _ _ _ c (iv_float F V' ho hr hm hnot hin h0 hc (fun e => by rw [hv]; exact .ptr e) (by rw [hoo]; exact .cells rfl ((cellsV_ok h2).mono' (Env.sub_bindF hE))))
    · rw [gdU_ok F V' ho hr hm hnot hin g1, if_pos rfl]
      left
      have hrun : (execOp a.eval o).run P w = .ok (.value (.map (some w.heap.size))) (w.alloc (.map #[] 0)) := by
        simp only [execOp, hop]; rfl
      unfold Oper.wp
      rw [hrun]
      exact hn _ _ _ _ c (iv_float F V' ho hr hm hnot hin h0 hc (fun e => by rw [hv]; exact .mp e) (by rw [hoo]; exact .map (m := []) rfl .nil rfl Bn.nil))
    · rw [gdU_ok F V' ho hr hm hnot hin g1, if_pos rfl]
      left
      obtain ⟨C, h1, h2⟩ := bsC_ok hev hec
      have hE : E.blk id = none := V'.fl0 hr hc hnot
      have hrun : (execOp a.eval o).run P w = .ok (.value (.slice (some ⟨w.heap.size, 0, none⟩) len len)) (w.alloc (.cells C e)) := by
        have h2 := h2 w
        simp only [execOp, hop, Sem.run_bind]
        rw [h2]; rfl
      unfold Oper.wp
      rw [hrun]
      exact hn _ _ _ _ c (iv_float F V' ho hr hm hnot hin h0 hc (fun e => by rw [hv]; exact .sl e) (by rw [hoo]; exact .cells rfl (h1.mono' (Env.sub_bindF hE))))
  | h pre post =>
    rw [hc] at cc2
    rw [gdU_ok F V' ho hr hm hnot hin cc2.1, if_pos rfl]
    left
    obtain ⟨K2, k1, k2, k3⟩ := iv_heavy (K := K) (a0 := a0) F V' ho hr hm hnot hin hc
    exact sop_ok hP hcf hev k2 cc2.2.2.1 (fun W E' w' p1 p2 p3 => hn _ _ E' K2 (i + 1) (k3 p1 p2 p3))
end
end
end X
end Go.Proofs.YtnkjnclpakfgnaaGreatDoor
namespace Go.Proofs.YtnkjnclpakfgnaaGreatDoor
namespace X

theorem ready_iff {ops : Array Oper} {listed : Array Bool} {i : Nat} : i ∈ Region.ready .any ops listed ↔ ∃ o, ops[i]? = some o ∧ listed.getD i true = false ∧ ∀ e ∈ o.after.toList, bindsA e = true → listed.getD e.on false = true := by
  unfold Region.ready
  rw [List.mem_filter]
  constructor
  · rintro ⟨h1, h2⟩
    have hi : i < ops.size := by simpa using h1
    rw [Array.getElem?_eq_getElem hi] at h2
    simp only [Option.map_some, Option.getD_some, Bool.and_eq_true, Bool.not_eq_true', Array.all_eq_true'] at h2
    refine ⟨ops[i], Array.getElem?_eq_getElem hi, h2.1, fun e he hb => ?_⟩
    have := h2.2 e (by simpa using he)
    unfold bindsA at hb
    simpa [hb] using this
  · rintro ⟨o, h1, h2, h3⟩
    have hi : i < ops.size := (Array.getElem?_eq_some_iff.1 h1).1
    refine ⟨by simpa using hi, ?_⟩
    rw [h1]
    simp only [Option.map_some, Option.getD_some, Bool.and_eq_true, Bool.not_eq_true', Array.all_eq_true']
    refine ⟨h2, fun e he => ?_⟩
    cases hb : Region.binds .any e with
    | false => rfl
    | true => simpa using h3 e (by simpa using he) hb

theorem countP_lt {α : Type} {p q : α → Bool} : ∀ {l : List α}, (∀ x ∈ l, q x = true → p x = true) → (∃ x ∈ l, p x = true ∧ q x = false) → l.countP q < l.countP p
  | [], _, h => by obtain ⟨x, hx, _⟩ := h; cases hx
  | y :: l, hs, h => by
    have hs' : ∀ x ∈ l, q x = true → p x = true := fun x hx => hs x (.tail _ hx)
    have hle : l.countP q ≤ l.countP p := List.countP_mono_left hs'
    rw [List.countP_cons, List.countP_cons]
    obtain ⟨x, hx, h1, h2⟩ := h
    rcases List.mem_cons.1 hx with rfl | hx
    · simp [h1, h2]; omega
    · have := countP_lt hs' ⟨x, hx, h1, h2⟩
      by_cases hq : q y = true
      · have := hs y (.head _) hq; simp [hq, this]; omega
      · simp [hq]; split <;> omega

section
variable {P : Program} {I : Inv} {cf : CF I.M} {n : Nat} {ops : Array Oper} {L : Ls} {ms : List Nat} {rs : List (Rc I.M)} {s1 : S I.M} {nf0 : Nat} {y : DS I.M} {K : Keep} {E0 : Env} {a0 : Act}
theorem getD_tf {l : Array Bool} {i : Nat} (h : i < l.size) : l.getD i true = l.getD i false := by simp [Array.getD, h]

theorem all_listed {listed : Array Bool} (F : Fx P cf n ops L ms rs s1 nf0 y) (hsz : listed.size = ops.size) (h : Region.ready .any ops listed = []) : ∀ i, i < ops.size → listed.getD i false = true := by
  intro i
  induction i using Nat.strongRecOn with
  | _ i ih =>
    intro hi
    cases hl : listed.getD i false with
    | true => rfl
    | false =>
      have : i ∈ Region.ready .any ops listed := ready_iff.2 ⟨ops[i], Array.getElem?_eq_getElem hi, by rw [getD_tf (by omega)]; exact hl, fun e he hb => by
        have := F.ed (Array.getElem?_eq_getElem hi) e he hb
        exact ih e.on this (by omega)⟩
      rw [h] at this; cases this

theorem any_ok (hP : Plain P) (hcf : CallOk I P cf) (h0 : E0.top ≤ nf0) (F : Fx P cf n ops L ms rs s1 nf0 y) {Q : Exit → Act → World → Prop}
    (hQ : ∀ {listed a w E K' c}, Iv n ops L ms rs s1 nf0 K E0 a0 listed a w E K' c → (∀ i, i < ops.size → listed.getD i false = true) → Q .normal a w) :
    ∀ (fuel : Nat) {listed : Array Bool} {a : Act} {w : World} {E : Env} {K' : Keep} {c : Nat}, Iv n ops L ms rs s1 nf0 K E0 a0 listed a w E K' c → (List.range ops.size).countP (fun i => !listed.getD i false) ≤ fuel →
      wpAny P .any ops Q fuel listed a w
  | 0, listed, a, w, E, K', c, V', hcnt => by
    have hall : ∀ i, i < ops.size → listed.getD i false = true := fun i hi => by
      have h1 : (List.range ops.size).countP (fun i => !listed.getD i false) = 0 := Nat.le_zero.1 hcnt
      have := List.countP_eq_zero.1 h1 i (by simpa using hi)
      simpa using this
    refine ⟨?_, hQ V' hall⟩
    apply List.eq_nil_iff_forall_not_mem.2
    intro i hi
    obtain ⟨o, h1, h2, _⟩ := ready_iff.1 hi
    have hi := (Array.getElem?_eq_some_iff.1 h1).1
    rw [getD_tf (by rw [V'.sz]; exact hi), hall i hi] at h2; cases h2
  | fuel + 1, listed, a, w, E, K', c, V', hcnt => by
    refine ⟨fun h => hQ V' (all_listed F V'.sz h), fun i hi => ?_⟩
    obtain ⟨o, h1, h2, h3⟩ := ready_iff.1 hi
    have hil := (Array.getElem?_eq_some_iff.1 h1).1
    rw [getD_tf (by rw [V'.sz]; exact hil)] at h2
    have hr : rs[i]? = some (rs[i]'(by rw [F.len]; exact hil)) := List.getElem?_eq_getElem _
    have hm : ms[i]? = some (ms[i]'(by rw [F.mlen]; exact hil)) := List.getElem?_eq_getElem _
    have hin : ∀ j, tb (ms[i]'(by rw [F.mlen]; exact hil)) j = true → listed.getD j false = true := fun j hj => by
      obtain ⟨e, he, hb, h4⟩ := F.bit h1 hm hj
      have h5 := h3 e he hb
      rcases h4 with rfl | ⟨m', hm', hb'⟩
      · exact h5
      · exact V'.cl h5 hm' hb'
    refine op_ok (K := K) (a0 := a0) F V' h1 hr hm h2 hin hP hcf h0 (fun a' w' E' K2 c' V2 => any_ok hP hcf h0 F hQ fuel V2 ?_)
    have : (List.range ops.size).countP (fun j => !(listed.setIfInBounds i true).getD j false) < (List.range ops.size).countP (fun j => !listed.getD j false) := by
      refine countP_lt (fun j hj hq => ?_) ⟨i, by simpa using hil, by rw [h2]; rfl, by rw [getD_set (by rw [V'.sz]; exact hil), if_pos rfl]; rfl⟩
      rw [getD_set (by rw [V'.sz]; exact hil)] at hq
      by_cases hji : j = i
      · rw [if_pos hji] at hq; cases hq
      · rw [if_neg hji] at hq; exact hq
    omega

theorem drR_ok (hP : Plain P) (hmix : P.follows .mixedOrders = true) (hcf : CallOk I P cf) (n : Nat) : DrOk I P n (drR P cf n) := by
  intro ops L R' s s' h K E a w Q id hL hS hQ
  obtain ⟨ms, hms, h⟩ := ob_eq h
  obtain ⟨hreg, h⟩ := ck_eq h
  rw [fN_eq] at h
  have hge : s.nx ≤ s.nx + llen (ops.toList.filter fun o => match o.op with | .alloc _ => true | .makeMap _ none => true | .buildSlice _ _ _ => true | _ => false) := Nat.le_add_right _ _
  generalize s.nx + llen (ops.toList.filter fun o => match o.op with | .alloc _ => true | .makeMap _ none => true | .buildSlice _ _ _ => true | _ => false) = nx0 at h hge
  obtain ⟨z, hz, h⟩ := ob_eq h
  obtain ⟨hnf, h⟩ := ck_eq h
  obtain ⟨hrd, h⟩ := ck_eq h
  obtain ⟨H, hH, h⟩ := ob_eq h
  cases h
  have hnf := Nat.le_of_ble_eq_true hnf
  obtain ⟨r1, r2⟩ := regOk_ok hreg
  obtain ⟨m1, _, m3⟩ := masks_ok hms
  obtain ⟨d1, d2, d3⟩ := drun_ok hz
  simp only [List.length_nil, Nat.zero_add, Array.length_toList] at m1 m3 d1 d2
  have hlow' : ∀ (i m j : Nat), ms[i]? = some m → tb m j = true → j < i := fun i => by
    induction i using Nat.strongRecOn with
    | _ i ih =>
      intro m j hm hb
      have hi : i < ops.size := by rw [← m1]; exact (List.getElem?_eq_some_iff.1 hm).1
      have ho : ops.toList[i]? = some ops[i] := by simp [hi]
      have hm2 := m3 i _ ho
      rw [hm] at hm2; cases hm2
      obtain ⟨e, he, hbe, h4⟩ := maskE_bit hb
      have hlt := r1 i _ ho e he hbe
      rw [Nat.zero_add] at hlt
      rcases h4 with rfl | ⟨m', hm', hb'⟩
      · exact hlt
      · rw [List.getElem?_take, if_pos hlt] at hm'
        have := ih e.on hlt m' j hm' hb'; omega
  have hall0 : ∀ {all : List (Rc I.M)} {s1 : S I.M}, DI all ms s1 s.nx ⟨0, [], s1, [], s.nx, []⟩ := fun {all s1} =>
    ⟨by cases all <;> rfl, by cases all <;> rfl, fun j r hj => absurd hj (Nat.not_lt_zero j), (fun f hf => by cases hf), List.nodup_nil, ⟨Nat.le_refl _, fun j r t id o hj => absurd hj (Nat.not_lt_zero j)⟩,
      fun i j r r' t id t' id' o o' _ hj => absurd hj (Nat.not_lt_zero j)⟩
  obtain ⟨e1, e2⟩ := d3 (all := z.1) (ms := ms) (nf0 := s.nx) (fun j r hj => by simpa using hj) (fun j m hj => by simpa using hj) hlow' hall0
  have F : Fx P cf n ops L ms z.1 ⟨s.H, nx0, s.m⟩ s.nx z.2 :=
    { mlen := m1
      bit := fun {i o m j} ho hm hb => by
        have ho' : ops.toList[i]? = some o := by simpa using ho
        have hm2 := m3 i o ho'
        rw [hm] at hm2; cases hm2
        obtain ⟨e, he, hbe, h4⟩ := maskE_bit hb
        refine ⟨e, he, hbe, h4.imp (fun h => h) fun ⟨m', hm', hb'⟩ => ⟨m', ?_, hb'⟩⟩
        rw [List.getElem?_take] at hm'
        split at hm'
        · exact hm'
        · cases hm'
      low := fun h1 h2 => hlow' _ _ _ h1 h2
      ed := fun {j o} ho e he hb => by have := r1 j o (by simpa using ho) e he hb; omega
      ssa := fun {i j o o' m} hij h1 h2 h3 h4 => by have := (r2 j o' m (by simpa using h2) h3).2 i o hij (by simpa using h1) h4; simpa using this
      len := d1
      cond := fun {i o r} ho hr => by
        obtain ⟨m, q1, q2⟩ := e1 i o r (by simpa using ho) hr
        simp only [Nat.zero_add] at q1 q2
        exact ⟨m, q1, q2⟩
      D := e2
      yi := d2
      nfle := hnf
      rd := fun {i r m t a c} hr hm hc hcv hno => by
        have key : ∀ x ∈ ((0, ⟨s.H, nx0, s.m⟩) :: stgs z.1 0 : List (Nat × S I.M)), x.1 = c → eLoadV P x.2 t a = some r.v := fun x hx hxc => by
          refine rdAll_ok hrd i r m t a hr hm hc x hx (fun y hy => ?_)
          obtain ⟨j, r', h1, h2, h3, h4⟩ := hvs_mem hy
          rw [Nat.zero_add] at h4
          cases hcl : clash (0 + i) m x.1 y with
          | false => rfl
          | true =>
            rw [Nat.zero_add, hxc] at hcl
            obtain ⟨n1, n2⟩ := hno j r' y.2 h1 h2 h3
            rcases clash_ok hcl with h5 | h5
            · rw [h4] at h5; exact absurd h5 n1
            · rw [h4] at h5; exact absurd h5 n2
        rcases hcv with rfl | ⟨hh, r', h1, h2, rfl⟩
        · have := key _ (.head _) rfl
          cases hzz : z.1 <;> exact this
        · obtain ⟨p, q, hcc⟩ : ∃ p q, r'.c = .h p q := by
            unfold isH at h2; split at h2
            · exact ⟨_, _, ‹_›⟩
            · cases h2
          have := key _ (.tail _ (stgs_mem (k := 0) h1 hcc)) (by simp)
          rw [stF_succ h1, hcc]; exact this }
  refine wp_region_any hmix ?_
  have htop := hS.top
  let E1 : Env := { E with top := nx0 }
  have hle1 : E.le E1 := ⟨fun h => h, fun h => h, by show E.top ≤ nx0; omega, fun h _ => h⟩
  have hS1 : Sim I K E1 s.H nx0 s.m { w with drawn := w.drawn + 1 } := by
    have hS2 := hS.drawn (w.drawn + 1)
    exact { hS2 with fresh := fun i hi => hS.fresh i (by omega), low := Nat.le_trans hS.low hge, top := rfl
                     heap := fun l => let ⟨b, c, o, q1, q2, q3⟩ := hS2.heap l; ⟨b, c, o, q1, q2, q3.mono hle1⟩
                     inv := let ⟨F, q1, q2, q3⟩ := hS2.inv; ⟨F, I.loc q1 hle1.sub rfl (Nat.le_refl _) (fun _ _ => rfl), q2, q3⟩ }
  have hst0 : ∀ {l : List (Rc I.M)} {s1 : S I.M}, stF s1 l 0 = s1 := fun {l s1} => by cases l <;> rfl
  have hf : ∀ i, (Array.replicate ops.size false).getD i false = false := fun i => by simp [Array.getD]
  have V0 : Iv n ops L ms z.1 ⟨s.H, nx0, s.m⟩ s.nx K E a (Array.replicate ops.size false) a { w with drawn := w.drawn + 1 } E1 K 0 :=
    { sz := by simp, cl := (fun h => by rw [hf] at h; cases h), as := hL.size, df := rfl, le := hle1, top := Nat.le_refl _, kle := ⟨rfl, rfl, rfl, Nat.le_refl _, fun h => h⟩
      cut := (fun {j r} _ _ => by rw [hf]; simp)
      cv := .inl rfl, sim := by rw [hst0]; exact hS1
      tm := (fun {t v} ht => by
        rw [lkS_none (fun j r _ _ => by rw [hf])] at ht
        obtain ⟨q1, q2⟩ := hL.val ht
        exact ⟨q1, q2.mono hle1⟩)
      fl1 := (fun _ _ hw => by have := hw.1; dsimp only at this; rw [hf] at this; cases this)
      fl0 := (fun {i r t id o} h1 h2 _ => by
        have hi : i < z.2.i := by rw [d2, ← d1]; exact (List.getElem?_eq_some_iff.1 h1).1
        have := e2.nf.2 i r t id o hi h1 h2
        exact hS.fresh id this.1)
      flu := (fun _ _ _ _ _ hw => by have := hw.1; dsimp only at this; rw [hf] at this; cases this) }
  refine any_ok (K := K) (E0 := E) (a0 := a) hP hcf (Nat.le_of_eq htop) F (fun {listed a' w' E' K' c} V' hall => ?_) _ V0 (by
    refine Nat.le_trans (List.countP_le_length) ?_; simp)
  have hheavy : stF (⟨s.H, nx0, s.m⟩ : S I.M) z.1 c = z.2.s := by
    rw [e2.s]
    have hcn : c ≤ z.2.i := by
      rcases V'.cv with h | ⟨h, r', h1, _, h3⟩
      · omega
      · have := (List.getElem?_eq_some_iff.1 h1).1; rw [d1] at this; rw [d2]; omega
    refine stF_same hcn fun k r hk hck hkz => ?_
    cases hh : isH r with
    | false => rfl
    | true =>
      have := (V'.cut hk hh).1 (hall k (by rw [← d2]; exact hkz)); omega
  obtain ⟨K2, k1, k2, _⟩ := adopt_all (s2 := stF ⟨s.H, nx0, s.m⟩ z.1 c) V' (done := []) (fs := z.2.pf) (by rw [hheavy]; exact hH) e2.nd V'.kle V'.sim (fun f hf => by
    obtain ⟨p1, p2, p3⟩ := e2.pf f hf
    exact ⟨p2, ⟨hall f.1 (by rw [← d2]; exact p1), fun j r m q1 q2 q3 _ => p3 j r m (by rw [d2, ← d1]; exact (List.getElem?_eq_some_iff.1 q1).1) q1 q2 q3⟩, by simp⟩) (fun h1 h2 h3 _ => V'.fl1 h1 h2 h3)
  have hfin := k2.weak k1
  rw [hheavy] at hfin
  refine hQ E' a' w' V'.le ⟨V'.as, fun {t v} ht => ?_⟩ V'.df hfin
  have hR : z.2.R = Rof [] z.1 := by rw [e2.R, d2, ← d1, List.take_length]
  rw [hR, lk_Rof t z.1 [] L 0, List.nil_append] at ht
  refine V'.tm ?_
  rw [← ht]
  congr 1
  refine lkS_congr fun j r hj _ => ?_
  simp only [Nat.zero_add]
  exact hall j (by rw [← d1]; exact (List.getElem?_eq_some_iff.1 hj).1)
end
end X
end Go.Proofs.YtnkjnclpakfgnaaGreatDoor
