/- The executor, 16: regions that draw their order: what the run shows. · The executor, 17: regions that draw their order: what is checked, blocks that wait. · The executor, 18: regions that draw their order: any order. No conditions. -/
import Derived.Test.YtnkjnclpakfgnaaGreatDoorMa5
namespace Go.Proofs.YtnkjnclpakfgnaaGreatDoor
namespace X

section
variable {M : Type}
def isH (r : Rc M) : Bool := match r.c with | .h _ _ => true | _ => false
/-- The state behind the first heavy operations. -/
def stF (s : S M) : List (Rc M) → Nat → S M
  | [], _ => s
  | _ :: _, 0 => s
  | r :: l, c + 1 => stF (match r.c with | .h _ post => post | _ => s) l c
theorem stF_succ : ∀ {l : List (Rc M)} {s : S M} {i : Nat} {r : Rc M}, l[i]? = some r → stF s l (i + 1) = match r.c with | .h _ post => post | _ => stF s l i
  | [], _, _, _, h => by simp at h
  | x :: l, s, 0, r, h => by cases h; cases l <;> rfl
  | x :: l, s, i + 1, r, h => by
    show stF _ l (i + 1) = _
    rw [stF_succ (l := l) (i := i) (by simpa using h)]
    rfl
/-- Cuts with the same heavy operations ahead. -/
theorem stF_same {l : List (Rc M)} {s : S M} : ∀ {i j : Nat}, i ≤ j → (∀ k r, l[k]? = some r → i ≤ k → k < j → isH r = false) → stF s l i = stF s l j
  | i, j, h, hn => by
    induction j with
    | zero => rw [Nat.le_zero.1 h]
    | succ j ih =>
      rcases Nat.lt_or_ge j i with hj | hj
      · rw [show i = j + 1 by omega]
      · rw [ih hj (fun k r a b c => hn k r a b (by omega))]
        cases hl : l[j]? with
        | none =>
          have : ∀ {l : List (Rc M)} {s : S M} {j : Nat}, l[j]? = none → stF s l j = stF s l (j + 1) := fun {l} => by
            induction l with
            | nil => intro s j _; rfl
            | cons x l ih =>
              intro s j hh
              cases j with
              | zero => simp at hh
              | succ j => exact ih (by simpa using hh)
          exact this hl
        | some r =>
          rw [stF_succ hl]
          have := hn j r hl hj (Nat.lt_succ_self j)
          unfold isH at this
          split
          · rename_i heq; rw [heq] at this; cases this
          · rfl
def psh (d : Option Nat) (v : V) (R : Ls) : Ls := match d with | some d => (d, v) :: R | none => R
theorem Rof_snoc (r : Rc M) : ∀ (l : List (Rc M)) (R : Ls), Rof R (l ++ [r]) = psh r.d r.v (Rof R l)
  | [], R => rfl
  | x :: l, R => by rw [List.cons_append]; unfold Rof; exact Rof_snoc r l _
theorem Rof_take {l : List (Rc M)} {i : Nat} {r : Rc M} (h : l[i]? = some r) (R : Ls) : Rof R (l.take (i + 1)) = psh r.d r.v (Rof R (l.take i)) := by
  rw [List.take_add_one, h]; exact Rof_snoc r _ R

/-- The run's state, told by all that was written down. -/
structure DI (all : List (Rc M)) (ms : List Nat) (s1 : S M) (nf0 : Nat) (x : DS M) : Prop where
  R : x.R = Rof [] (all.take x.i)
  s : x.s = stF s1 all x.i
  hl : ∀ (j : Nat) (r : Rc M), j < x.i → all[j]? = some r → isH r = true → j ∈ x.hl
  pf : ∀ f ∈ x.pf, f.1 < x.i ∧ (∃ (r : Rc M) (t : Nat), all[f.1]? = some r ∧ r.c = .b t f.2.1 f.2.2) ∧ ∀ (j : Nat) (r : Rc M) (m : Nat), j < x.i → all[j]? = some r → isH r = true → ms[j]? = some m → tb m f.1 = false
  nd : (x.pf.map (·.1)).Nodup
  nf : nf0 ≤ x.nf ∧ ∀ (j : Nat) (r : Rc M) (t id : Nat) (o : O), j < x.i → all[j]? = some r → r.c = .b t id o → nf0 ≤ id ∧ id < x.nf
  un : ∀ (i j : Nat) (r r' : Rc M) (t id t' id' : Nat) (o o' : O), i < j → j < x.i → all[i]? = some r → all[j]? = some r' → r.c = .b t id o → r'.c = .b t' id' o' → id < id'
end

section
variable (P : Program) {M : Type} (cf : CF M) (n : Nat) (ops : List Oper) (L : Ls)
/-- What is known of one operation. -/
def Cond (all : List (Rc M)) (ms : List Nat) (s1 : S M) (i : Nat) (o : Oper) (m : Nat) (r : Rc M) : Prop :=
  r.d = o.dst ∧ (∀ d, o.dst = some d → d < n) ∧
  match r.c with
  | .u => gdU ops (usesO ops o) L (Rof [] (all.take i)) o = some false ∧ r.v = .tup []
  | .p => gdU ops (usesO ops o) L (Rof [] (all.take i)) o = some true ∧ pop P (evU (usesO ops o) (Rof [] (all.take i)) L) o.op = some r.v
  | .r t a => gdU ops (usesO ops o) L (Rof [] (all.take i)) o = some true ∧ ((∃ x, o.op = .load t x ∧ evU (usesO ops o) (Rof [] (all.take i)) L x = some a ∧ isPtr a = true) ∨ ∃ x j ok u k, o.op = .lookup t x j ok ∧ evU (usesO ops o) (Rof [] (all.take i)) L x = some u ∧ evU (usesO ops o) (Rof [] (all.take i)) L j = some k ∧ a = .tup [u, k, .bool ok])
  | .b t id ob => gdU ops (usesO ops o) L (Rof [] (all.take i)) o = some true ∧ ((o.op = .alloc t ∧ r.v = .ptr id 0 ∧ ∃ z, zeroT P t = some z ∧ ob = .cells t (cellsV z)) ∨ ((∃ t', o.op = .makeMap t' none) ∧ r.v = .mp id ∧ ob = .map []) ∨ ∃ len parts e cs, o.op = .buildSlice t len parts ∧ bsC P (evU (usesO ops o) (Rof [] (all.take i)) L) t len parts = some (e, cs) ∧ r.v = .sl id 0 len len ∧ ob = .cells e cs)
  | .h pre post => gdU ops (usesO ops o) L (Rof [] (all.take i)) o = some true ∧ (∀ (j : Nat) (r' : Rc M), j < i → all[j]? = some r' → isH r' = true → tb m j = true) ∧
    sop P cf (evU (usesO ops o) (Rof [] (all.take i)) L) pre o.op = some (r.v, post) ∧
    ∃ fs, forceL fs (stF s1 all i).H = some pre.H ∧ pre.nx = (stF s1 all i).nx ∧ pre.m = (stF s1 all i).m ∧ (fs.map (·.1)).Nodup ∧
      ∀ f ∈ fs, (∃ (r' : Rc M) (t : Nat), all[f.1]? = some r' ∧ r'.c = .b t f.2.1 f.2.2) ∧ tb m f.1 = true ∧
        ∀ (j : Nat) (r' : Rc M) (m' : Nat), j < i → all[j]? = some r' → isH r' = true → ms[j]? = some m' → tb m' f.1 = false
end

section
variable {P : Program} {M : Type} {cf : CF M} {n : Nat} {ops : List Oper} {L : Ls}
theorem lbits_ok {m : Nat} : ∀ {l : List Nat}, lbits m l = true → ∀ j ∈ l, tb m j = true
  | [], _, j, h => by cases h
  | x :: l, h, j, hj => by
    have h : (tb m x).rec false (lbits m l) = true := h
    cases hb : tb m x with
    | false => rw [hb] at h; cases h
    | true =>
      rw [hb] at h
      rcases List.mem_cons.1 hj with rfl | hj
      · exact hb
      · exact lbits_ok h j hj
theorem part_ok {α : Type} {m : Nat} {z : α} : ∀ {pf : List (Nat × Nat × O)} {k : List (Nat × Nat × O) → List (Nat × Nat × O) → Option α}, part m pf k = some z →
    k (pf.filter fun f => tb m f.1) (pf.filter fun f => !tb m f.1) = some z
  | [], k, h => h
  | x :: pf, k, h => by
    have h : (tb m x.1).rec (part m pf fun a b => k a (x :: b)) (part m pf fun a b => k (x :: a) b) = some z := h
    cases hb : tb m x.1 with
    | false => rw [hb] at h; have := part_ok h; simpa [hb] using this
    | true => rw [hb] at h; have := part_ok h; simpa [hb] using this
theorem push_eq {d : Option Nat} {v : V} {R R' : Ls} (h : push n d v R = some R') : R' = psh d v R ∧ ∀ e, d = some e → e < n := by
  cases d with
  | none => cases h; exact ⟨rfl, fun e he => by cases he⟩
  | some d =>
    obtain ⟨h1, h2⟩ := ck_eq h
    cases h2
    exact ⟨rfl, fun e he => by cases he; exact Nat.le_of_ble_eq_true h1⟩

theorem dOp_ok {α : Type} {m : Nat} {o : Oper} {x : DS M} {k : Rc M → DS M → Option α} {z : α} (h : dOp P cf n ops L (usesO ops o) m o x k = some z) :
    ∃ r y, k r y = some z ∧ y.i = x.i + 1 ∧ ∀ {all : List (Rc M)} {ms : List Nat} {s1 : S M} {nf0 : Nat}, all[x.i]? = some r → ms[x.i]? = some m → (∀ (j m' b : Nat), ms[j]? = some m' → tb m' b = true → b < j) →
      DI all ms s1 nf0 x → Cond P cf n ops L all ms s1 x.i o m r ∧ DI all ms s1 nf0 y := by
  obtain ⟨b, hb, h⟩ := ob_eq h
  rw [fN_eq] at h
  -- what does not touch the state
  have light : ∀ {R : Ls} {r : Rc M}, push n o.dst r.v x.R = some R → r.d = o.dst → isH r = false → (∀ t id ob, r.c ≠ .b t id ob) → ∀ {all : List (Rc M)} {ms : List Nat} {s1 : S M} {nf0 : Nat}, all[x.i]? = some r → DI all ms s1 nf0 x →
      DI all ms s1 nf0 ⟨x.i + 1, R, x.s, x.pf, x.nf, x.hl⟩ := fun {R r} hR hd hh hbb {all ms s1 nf0} hall D => by
    obtain ⟨rfl, _⟩ := push_eq hR
    refine ⟨?_, ?_, fun j r' hj hr hH => ?_, fun f hf => ?_, D.nd, ⟨D.nf.1, fun j r' t id ob hj hr hc => ?_⟩, fun i j r1 r2 t id t' id' o1 o2 hij hj h1 h2 c1 c2 => ?_⟩
    · rw [Rof_take hall, hd, D.R]
    · show x.s = _
      rw [stF_succ hall, D.s]
      unfold isH at hh
      split
      · rename_i heq; rw [heq] at hh; cases hh
      · rfl
    · rcases Nat.lt_succ_iff_lt_or_eq.1 hj with hj | rfl
      · exact D.hl j r' hj hr hH
      · rw [hall] at hr; cases hr; rw [hh] at hH; cases hH
    · obtain ⟨p1, p2, p3⟩ := D.pf f hf
      refine ⟨Nat.lt_succ_of_lt p1, p2, fun j r' m' hj hr hH => ?_⟩
      rcases Nat.lt_succ_iff_lt_or_eq.1 hj with hj | rfl
      · exact p3 j r' m' hj hr hH
      · rw [hall] at hr; cases hr; rw [hh] at hH; cases hH
    · rcases Nat.lt_succ_iff_lt_or_eq.1 hj with hj | rfl
      · exact D.nf.2 j r' t id ob hj hr hc
      · rw [hall] at hr; cases hr; exact absurd hc (hbb t id ob)
    · rcases Nat.lt_succ_iff_lt_or_eq.1 hj with hj | rfl
      · exact D.un i j r1 r2 t id t' id' o1 o2 hij hj h1 h2 c1 c2
      · rw [hall] at h2; cases h2; exact absurd c2 (hbb t' id' o2)
  cases b with
  | false =>
    obtain ⟨R, hR, h⟩ := ob_eq h
    refine ⟨_, _, h, rfl, fun {all ms s1 nf0} hall hm hlow D => ⟨⟨rfl, (push_eq hR).2, ?_⟩, light hR rfl rfl (by simp) hall D⟩⟩
    dsimp only
    rw [← D.R]; exact ⟨hb, rfl⟩
  | true =>
    dsimp only at h
    split at h
    · rename_i t y hop
      obtain ⟨a, ha, h⟩ := ob_eq h
      obtain ⟨hpt, h⟩ := ck_eq h
      obtain ⟨v, hv, h⟩ := ob_eq h
      obtain ⟨R, hR, h⟩ := ob_eq h
      refine ⟨_, _, h, rfl, fun {all ms s1 nf0} hall hm hlow D => ⟨⟨rfl, (push_eq hR).2, ?_⟩, light hR rfl rfl (by simp) hall D⟩⟩
      dsimp only
      rw [← D.R]; exact ⟨hb, .inl ⟨y, hop, ha, hpt⟩⟩
    · rename_i t y j ok hop
      obtain ⟨a, ha, h⟩ := ob_eq h
      obtain ⟨b', hb', h⟩ := ob_eq h
      obtain ⟨v, hv, h⟩ := ob_eq h
      obtain ⟨R, hR, h⟩ := ob_eq h
      refine ⟨_, _, h, rfl, fun {all ms s1 nf0} hall hm hlow D => ⟨⟨rfl, (push_eq hR).2, ?_⟩, light hR rfl rfl (by simp) hall D⟩⟩
      dsimp only
      rw [← D.R]; exact ⟨hb, .inr ⟨y, j, ok, a, b', hop, ha, hb', rfl⟩⟩
    · rename_i t hop
      obtain ⟨zv, hz, h⟩ := ob_eq h
      obtain ⟨R, hR, h⟩ := ob_eq h
      rw [fN_eq] at h
      refine ⟨_, _, h, rfl, fun {all ms s1 nf0} hall hm hlow D => ⟨⟨rfl, (push_eq hR).2, ?_⟩, ?_⟩⟩
      · dsimp only
        rw [← D.R]; exact ⟨hb, .inl ⟨hop, rfl, zv, hz, rfl⟩⟩
      · obtain ⟨rfl, _⟩ := push_eq hR
        refine ⟨?_, ?_, fun j r' hj hr hH => ?_, fun f hf => ?_, ?_, ⟨Nat.le_succ_of_le D.nf.1, fun j r' t' id ob hj hr hc => ?_⟩, fun i j r1 r2 t1 id t2 id' o1 o2 hij hj h1 h2 c1 c2 => ?_⟩
        · rw [Rof_take hall, D.R]
        · show x.s = _
          rw [stF_succ hall, D.s]
        · rcases Nat.lt_succ_iff_lt_or_eq.1 hj with hj | rfl
          · exact D.hl j r' hj hr hH
          · rw [hall] at hr; cases hr; cases hH
        · rcases List.mem_cons.1 hf with rfl | hf
          · refine ⟨Nat.lt_succ_self _, ⟨_, t, hall, rfl⟩, fun j r' m' hj hr hH hm' => ?_⟩
            cases hbit : tb m' x.i with
            | false => rfl
            | true => have := hlow j m' x.i hm' hbit; dsimp only at hj; omega
          · obtain ⟨p1, p2, p3⟩ := D.pf f hf
            refine ⟨Nat.lt_succ_of_lt p1, p2, fun j r' m' hj hr hH => ?_⟩
            rcases Nat.lt_succ_iff_lt_or_eq.1 hj with hj | rfl
            · exact p3 j r' m' hj hr hH
            · rw [hall] at hr; cases hr; cases hH
        · show (x.i :: x.pf.map (·.1)).Nodup
          refine List.nodup_cons.2 ⟨fun hmem => ?_, D.nd⟩
          obtain ⟨f, hf, hfi⟩ := List.mem_map.1 hmem
          have := (D.pf f hf).1; omega
        · rcases Nat.lt_succ_iff_lt_or_eq.1 hj with hj | rfl
          · have := D.nf.2 j r' t' id ob hj hr hc; exact ⟨this.1, Nat.lt_succ_of_lt this.2⟩
          · rw [hall] at hr; cases hr; cases hc; exact ⟨D.nf.1, Nat.lt_succ_self _⟩
        · rcases Nat.lt_succ_iff_lt_or_eq.1 hj with hj | rfl
          · exact D.un i j r1 r2 t1 id t2 id' o1 o2 hij hj h1 h2 c1 c2
          · rw [hall] at h2; cases h2; cases c2; exact (D.nf.2 i r1 t1 id o1 hij h1 c1).2
    · rename_i t hop
      obtain ⟨R, hR, h⟩ := ob_eq h
      rw [fN_eq] at h
      refine ⟨_, _, h, rfl, fun {all ms s1 nf0} hall hm hlow D => ⟨⟨rfl, (push_eq hR).2, ?_⟩, ?_⟩⟩
      · dsimp only
        rw [← D.R]; exact ⟨hb, .inr (.inl ⟨⟨_, hop⟩, rfl, rfl⟩)⟩
      · obtain ⟨rfl, _⟩ := push_eq hR
        refine ⟨?_, ?_, fun j r' hj hr hH => ?_, fun f hf => ?_, ?_, ⟨Nat.le_succ_of_le D.nf.1, fun j r' t' id ob hj hr hc => ?_⟩, fun i j r1 r2 t1 id t2 id' o1 o2 hij hj h1 h2 c1 c2 => ?_⟩
        · rw [Rof_take hall, D.R]
        · show x.s = _
          rw [stF_succ hall, D.s]
        · rcases Nat.lt_succ_iff_lt_or_eq.1 hj with hj | rfl
          · exact D.hl j r' hj hr hH
          · rw [hall] at hr; cases hr; cases hH
        · rcases List.mem_cons.1 hf with rfl | hf
          · refine ⟨Nat.lt_succ_self _, ⟨_, 0, hall, rfl⟩, fun j r' m' hj hr hH hm' => ?_⟩
            cases hbit : tb m' x.i with
            | false => rfl
            | true => have := hlow j m' x.i hm' hbit; dsimp only at hj; omega
          · obtain ⟨p1, p2, p3⟩ := D.pf f hf
            refine ⟨Nat.lt_succ_of_lt p1, p2, fun j r' m' hj hr hH => ?_⟩
            rcases Nat.lt_succ_iff_lt_or_eq.1 hj with hj | rfl
            · exact p3 j r' m' hj hr hH
            · rw [hall] at hr; cases hr; cases hH
        · show (x.i :: x.pf.map (·.1)).Nodup
          refine List.nodup_cons.2 ⟨fun hmem => ?_, D.nd⟩
          obtain ⟨f, hf, hfi⟩ := List.mem_map.1 hmem
          have := (D.pf f hf).1; omega
        · rcases Nat.lt_succ_iff_lt_or_eq.1 hj with hj | rfl
          · have := D.nf.2 j r' t' id ob hj hr hc; exact ⟨this.1, Nat.lt_succ_of_lt this.2⟩
          · rw [hall] at hr; cases hr; cases hc; exact ⟨D.nf.1, Nat.lt_succ_self _⟩
        · rcases Nat.lt_succ_iff_lt_or_eq.1 hj with hj | rfl
          · exact D.un i j r1 r2 t1 id t2 id' o1 o2 hij hj h1 h2 c1 c2
          · rw [hall] at h2; cases h2; cases c2; exact (D.nf.2 i r1 t1 id o1 hij h1 c1).2
    · rename_i t len parts hop
      obtain ⟨⟨e, cs⟩, hec, h⟩ := ob_eq h
      obtain ⟨R, hR, h⟩ := ob_eq h
      rw [fN_eq] at h
      refine ⟨_, _, h, rfl, fun {all ms s1 nf0} hall hm hlow D => ⟨⟨rfl, (push_eq hR).2, ?_⟩, ?_⟩⟩
      · dsimp only
        rw [← D.R]; exact ⟨hb, .inr (.inr ⟨len, parts, e, cs, hop, hec, rfl, rfl⟩)⟩
      · obtain ⟨rfl, _⟩ := push_eq hR
        refine ⟨?_, ?_, fun j r' hj hr hH => ?_, fun f hf => ?_, ?_, ⟨Nat.le_succ_of_le D.nf.1, fun j r' t' id ob hj hr hc => ?_⟩, fun i j r1 r2 t1 id t2 id' o1 o2 hij hj h1 h2 c1 c2 => ?_⟩
        · rw [Rof_take hall, D.R]
        · show x.s = _
          rw [stF_succ hall, D.s]
        · rcases Nat.lt_succ_iff_lt_or_eq.1 hj with hj | rfl
          · exact D.hl j r' hj hr hH
          · rw [hall] at hr; cases hr; cases hH
        · rcases List.mem_cons.1 hf with rfl | hf
          · refine ⟨Nat.lt_succ_self _, ⟨_, t, hall, rfl⟩, fun j r' m' hj hr hH hm' => ?_⟩
            cases hbit : tb m' x.i with
            | false => rfl
            | true => have := hlow j m' x.i hm' hbit; dsimp only at hj; omega
          · obtain ⟨p1, p2, p3⟩ := D.pf f hf
            refine ⟨Nat.lt_succ_of_lt p1, p2, fun j r' m' hj hr hH => ?_⟩
            rcases Nat.lt_succ_iff_lt_or_eq.1 hj with hj | rfl
            · exact p3 j r' m' hj hr hH
            · rw [hall] at hr; cases hr; cases hH
        · show (x.i :: x.pf.map (·.1)).Nodup
          refine List.nodup_cons.2 ⟨fun hmem => ?_, D.nd⟩
          obtain ⟨f, hf, hfi⟩ := List.mem_map.1 hmem
          have := (D.pf f hf).1; omega
        · rcases Nat.lt_succ_iff_lt_or_eq.1 hj with hj | rfl
          · have := D.nf.2 j r' t' id ob hj hr hc; exact ⟨this.1, Nat.lt_succ_of_lt this.2⟩
          · rw [hall] at hr; cases hr; cases hc; exact ⟨D.nf.1, Nat.lt_succ_self _⟩
        · rcases Nat.lt_succ_iff_lt_or_eq.1 hj with hj | rfl
          · exact D.un i j r1 r2 t1 id t2 id' o1 o2 hij hj h1 h2 c1 c2
          · rw [hall] at h2; cases h2; cases c2; exact (D.nf.2 i r1 t1 id o1 hij h1 c1).2
    · rename_i hn1 hn2 hn3 hn4 hn5
      cases hp : isPure o.op with
      | true =>
        rw [hp] at h
        obtain ⟨v, hv, h⟩ := ob_eq h
        obtain ⟨R, hR, h⟩ := ob_eq h
        refine ⟨_, _, h, rfl, fun {all ms s1 nf0} hall hm hlow D => ⟨⟨rfl, (push_eq hR).2, ?_⟩, light hR rfl rfl (by simp) hall D⟩⟩
        dsimp only
        rw [← D.R]; exact ⟨hb, hv⟩
      | false =>
        rw [hp] at h
        obtain ⟨hl, h⟩ := ck_eq h
        have h := part_ok h
        obtain ⟨H, hH, h⟩ := ob_eq h
        obtain ⟨vs, hvs, h⟩ := ob_eq h
        obtain ⟨R, hR, h⟩ := ob_eq h
        refine ⟨_, _, h, rfl, fun {all ms s1 nf0} hall hm hlow D => ⟨⟨rfl, (push_eq hR).2, ?_⟩, ?_⟩⟩
        · dsimp only
          rw [← D.R, ← D.s]
          refine ⟨hb, fun j r' hj hr hh => lbits_ok hl j (D.hl j r' hj hr hh), hvs, _, hH, rfl, rfl, ?_, fun f hf => ?_⟩
          · exact D.nd.sublist (List.filter_sublist.map _)
          · obtain ⟨hf1, hf2⟩ := List.mem_filter.1 hf
            obtain ⟨p1, p2, p3⟩ := D.pf f hf1
            exact ⟨p2, hf2, p3⟩
        · obtain ⟨rfl, _⟩ := push_eq hR
          refine ⟨?_, ?_, fun j r' hj hr hh => ?_, fun f hf => ?_, ?_, ⟨D.nf.1, fun j r' t' id ob hj hr hc => ?_⟩, fun i j r1 r2 t1 id t2 id' o1 o2 hij hj h1 h2 c1 c2 => ?_⟩
          · rw [Rof_take hall, D.R]
          · show vs.2 = _
            rw [stF_succ hall]
          · rcases Nat.lt_succ_iff_lt_or_eq.1 hj with hj | rfl
            · exact .tail _ (D.hl j r' hj hr hh)
            · exact .head _
          · obtain ⟨hf1, hf2⟩ := List.mem_filter.1 hf
            obtain ⟨p1, p2, p3⟩ := D.pf f hf1
            refine ⟨Nat.lt_succ_of_lt p1, p2, fun j r' m' hj hr hh hm' => ?_⟩
            rcases Nat.lt_succ_iff_lt_or_eq.1 hj with hj | rfl
            · exact p3 j r' m' hj hr hh hm'
            · rw [hm] at hm'; cases hm'; simpa using hf2
          · exact D.nd.sublist (List.filter_sublist.map _)
          · rcases Nat.lt_succ_iff_lt_or_eq.1 hj with hj | rfl
            · exact D.nf.2 j r' t' id ob hj hr hc
            · rw [hall] at hr; cases hr; cases hc
          · rcases Nat.lt_succ_iff_lt_or_eq.1 hj with hj | rfl
            · exact D.un i j r1 r2 t1 id t2 id' o1 o2 hij hj h1 h2 c1 c2
            · rw [hall] at h2; cases h2; cases c2

theorem drun_ok : ∀ {l : List Oper} {ml : List Nat} {x y : DS M} {rs : List (Rc M)}, drun P cf n ops L l ml x = some (rs, y) → rs.length = l.length ∧ y.i = x.i + l.length ∧
    ∀ {all : List (Rc M)} {ms : List Nat} {s1 : S M} {nf0 : Nat}, (∀ (j : Nat) (r : Rc M), rs[j]? = some r → all[x.i + j]? = some r) → (∀ (j m : Nat), ml[j]? = some m → ms[x.i + j]? = some m) →
      (∀ (j m' b : Nat), ms[j]? = some m' → tb m' b = true → b < j) → DI all ms s1 nf0 x →
      (∀ (j : Nat) (o : Oper) (r : Rc M), l[j]? = some o → rs[j]? = some r → ∃ m, ms[x.i + j]? = some m ∧ Cond P cf n ops L all ms s1 (x.i + j) o m r) ∧ DI all ms s1 nf0 y
  | [], ml, x, y, rs, h => by
    cases h
    exact ⟨rfl, rfl, fun _ _ _ D => ⟨fun j o r hj => by simp at hj, D⟩⟩
  | o :: l, [], x, y, rs, h => by cases h
  | o :: l, m :: ml, x, y, rs, h => by
    obtain ⟨r, x', h1, hi, hc⟩ := dOp_ok (o := o) (m := m) (x := x) (k := fun r y => ob (drun P cf n ops L l ml y) fun z => some (r :: z.1, z.2)) h
    obtain ⟨z, hz, h2⟩ := ob_eq h1
    cases h2
    obtain ⟨q1, q2, q3⟩ := drun_ok (l := l) (ml := ml) (rs := z.1) (y := z.2) hz
    refine ⟨by simp [q1], by rw [q2, hi]; simp; omega, fun {all ms s1 nf0} ha hm hlow D => ?_⟩
    have ha0 : all[x.i]? = some r := ha 0 r rfl
    have hm0 : ms[x.i]? = some m := hm 0 m rfl
    obtain ⟨c1, c2⟩ := hc ha0 hm0 hlow D
    obtain ⟨d1, d2⟩ := q3 (fun j r' hj => by rw [hi, show x.i + 1 + j = x.i + (j + 1) by omega]; exact ha (j + 1) r' (by simpa using hj)) (fun j m' hj => by rw [hi, show x.i + 1 + j = x.i + (j + 1) by omega]; exact hm (j + 1) m' (by simpa using hj)) hlow c2
    refine ⟨fun j o' r' ho hr => ?_, d2⟩
    cases j with
    | zero => cases ho; cases hr; exact ⟨m, hm0, c1⟩
    | succ j =>
      obtain ⟨m', e1, e2⟩ := d1 j o' r' (by simpa using ho) (by simpa using hr)
      rw [hi, show x.i + 1 + j = x.i + (j + 1) by omega] at e1 e2
      exact ⟨m', e1, e2⟩
end
end X
end Go.Proofs.YtnkjnclpakfgnaaGreatDoor
namespace Go.Proofs.YtnkjnclpakfgnaaGreatDoor
namespace X

/-! ## blocks that wait -/
/-- A name that is bound though others above it are. -/
def Env.bindF (E : Env) (id b : Nat) (c : Nat × Nat) : Env := ⟨fun j => if j = id then some (b, c) else E.blk j, E.sy, E.top⟩
theorem Env.sub_bindF {E : Env} {id b : Nat} {c : Nat × Nat} (h : E.blk id = none) : E.sub (E.bindF id b c) :=
  ⟨fun {j x} hj => by
    have : j ≠ id := fun e => by rw [e, h] at hj; cases hj
    simp [Env.bindF, this, hj], fun hs => hs⟩
theorem Env.bindF_self (E : Env) (id b : Nat) (c : Nat × Nat) : (E.bindF id b c).blk id = some (b, c) := by simp [Env.bindF]
theorem Env.bindF_ne {E : Env} {id b j : Nat} {c : Nat × Nat} (h : j ≠ id) : (E.bindF id b c).blk j = E.blk j := by simp [Env.bindF, h]
def Keep.add (K : Keep) (b : Nat) (o : Obj) : Keep := { K with G := fun j => if j = b then some o else K.G j }
def Keep.del (K : Keep) (b : Nat) : Keep := { K with G := fun j => if j = b then none else K.G j }
/-- One keeps more. -/
structure Keep.le (K K' : Keep) : Prop where
  os : K'.os = K.os
  tape : K'.tape = K.tape
  output : K'.output = K.output
  size : K.size ≤ K'.size
  G : ∀ {b o}, K.G b = some o → K'.G b = some o

section
variable {I : Inv} {K K' : Keep} {E : Env} {H H' : T O} {nx : Nat} {m : I.M} {w w' : World}
theorem Sim.weak (h : Sim I K' E H nx m w) (hk : K.le K') : Sim I K E H nx m w :=
  have hg : ∀ {b}, K'.G b = none → K.G b = none := fun {b} hb => by
    cases hx : K.G b with
    | none => rfl
    | some o => rw [hk.G hx] at hb; cases hb
  { h with os := h.os.trans hk.os, tape := h.tape.trans hk.tape, output := h.output.trans hk.output, size := Nat.le_trans hk.size h.size, frame := fun g => h.frame (hk.G g), apart := fun l e => hg (h.apart l e),
           inv := let ⟨F, a, b, c⟩ := h.inv; ⟨F, a, fun x hx => hg (b x hx), c⟩ }

/-- A block that waits is made. -/
theorem Sim.float (h : Sim I K E H nx m w) {id : Nat} {c : Nat × Nat} {ob : Obj} (hid : id < nx) (hE : E.blk id = none) :
    Sim I (K.add w.heap.size ob) (E.bindF id w.heap.size c) H nx m (w.alloc ob) := by
  have hsub : E.sub (E.bindF id w.heap.size c) := Env.sub_bindF hE
  have hlt : ∀ {b : Nat} {x : Obj}, w.heap[b]? = some x → b ≠ w.heap.size := fun hb e => by rw [e, Array.getElem?_eq_none (Nat.le_refl _)] at hb; cases hb
  have hold : ∀ b, b ≠ w.heap.size → (w.alloc ob).heap[b]? = w.heap[b]? := fun b hb => (Array.getElem?_push ..).trans (if_neg hb)
  have hne : ∀ {j o}, Live H j o → j ≠ id := fun l e => by
    obtain ⟨b, c, ob, h1, _⟩ := h.heap l
    rw [e, hE] at h1; cases h1
  refine { h with
    size := by simp only [World.size_alloc]; exact Nat.le_succ_of_le h.size
    fresh := fun j hj => by rw [Env.bindF_ne (by omega)]; exact h.fresh j hj
    top := h.top
    glob := fun g hg => ?_
    heap := fun l => ?_
    inj := fun l l' e e' => ?_
    frame := fun {b x} g => ?_
    apart := fun l e => ?_
    inv := ?_ }
  · obtain ⟨n, hn⟩ := h.glob g hg
    exact ⟨n, hsub.blk hn⟩
  · obtain ⟨b, c', x, h1, h2, h3⟩ := h.heap l
    exact ⟨b, c', x, hsub.blk h1, (hold b (hlt h2)).trans h2, h3.mono' hsub⟩
  · rw [Env.bindF_ne (hne l)] at e; rw [Env.bindF_ne (hne l')] at e'; exact h.inj l l' e e'
  · change (if b = w.heap.size then some ob else K.G b) = some x at g
    by_cases hb : b = w.heap.size
    · rw [if_pos hb] at g; cases g; rw [hb]; exact (Array.getElem?_push ..).trans (if_pos rfl)
    · rw [if_neg hb] at g; exact (hold b hb).trans (h.frame g)
  · rw [Env.bindF_ne (hne l)] at e
    obtain ⟨x, hx, _⟩ := h.at l e
    show (if _ = w.heap.size then some ob else K.G _) = none
    rw [if_neg (hlt hx)]; exact h.apart l e
  · obtain ⟨F, a, b, c'⟩ := h.inv
    refine ⟨F, I.loc a hsub rfl (by rw [World.size_alloc]; exact Nat.le_succ _) (fun j hj => hold j (Nat.ne_of_lt (I.lt a hj))), fun j hj => ?_, fun l e => ?_⟩
    · show (if j = w.heap.size then some ob else K.G j) = none
      rw [if_neg (Nat.ne_of_lt (I.lt a hj))]; exact b j hj
    · rw [Env.bindF_ne (hne l)] at e; exact c' l e

/-- A block that waited is one's own. -/
theorem Sim.adopt (h : Sim I K E H nx m w) {id b : Nat} {c : Nat × Nat} {o : O} {ob : Obj} (hg : K.G b = some ob) (hb : E.blk id = some (b, c)) (ho : OR E o c ob) (hs : hset H id o = some H') : Sim I (K.del b) E H' nx m w := by
  have hoff : ∀ {j p b' c'}, Live H j p → E.blk j = some (b', c') → b' ≠ b := fun l e e' => by
    have := h.apart l e; rw [e', hg] at this; cases this
  refine { h with heap := fun l => ?_, inj := fun l l' e e' => ?_, frame := fun {j x} g => ?_, apart := fun l e => ?_, inv := ?_ }
  · rcases (live_hset hs).1 l with ⟨rfl, rfl, _⟩ | ⟨_, l'⟩
    · exact ⟨b, c, ob, hb, h.frame hg, ho⟩
    · exact h.heap l'
  · rcases (live_hset hs).1 l with ⟨rfl, rfl, _⟩ | ⟨_, q⟩ <;> rcases (live_hset hs).1 l' with ⟨rfl, rfl, _⟩ | ⟨_, q'⟩
    · rfl
    · rw [hb] at e; cases e; exact absurd rfl (hoff q' e')
    · rw [hb] at e'; cases e'; exact absurd rfl (hoff q e)
    · exact h.inj q q' e e'
  · change (if j = b then none else K.G j) = some x at g
    by_cases hj : j = b
    · rw [if_pos hj] at g; cases g
    · rw [if_neg hj] at g; exact h.frame g
  · show (if _ = b then none else K.G _) = none
    rcases (live_hset hs).1 l with ⟨rfl, rfl, _⟩ | ⟨_, q⟩
    · rw [hb] at e; cases e; rw [if_pos rfl]
    · rw [if_neg (hoff q e)]; exact h.apart q e
  · obtain ⟨F, a, x, y⟩ := h.inv
    refine ⟨F, a, fun j hj => ?_, fun l e => ?_⟩
    · show (if j = b then none else K.G j) = none
      split
      · rfl
      · exact x j hj
    · rcases (live_hset hs).1 l with ⟨rfl, rfl, _⟩ | ⟨_, q⟩
      · rw [hb] at e; cases e
        intro hF; have := x _ hF; rw [hg] at this; cases this
      · exact y q e
end

/-! ## what is checked of a region -/
noncomputable def deq (a : Option Nat) (t : Nat) : Bool := a.rec false (fun x => Nat.beq x t)
noncomputable def conf1 (d1 d2 : Option Nat) (u2 : List Nat) : Bool := d1.rec false fun t => (lmem t u2).rec (deq d2 t) true
noncomputable def conf (d1 : Option Nat) (u1 : List Nat) (d2 : Option Nat) (u2 : List Nat) : Bool := (conf1 d1 d2 u2).rec (d2.rec false fun t => lmem t u1) true
theorem conf_write {d2 : Option Nat} {u1 u2 : List Nat} {t : Nat} (h : t ∈ u2 ∨ d2 = some t) : conf (some t) u1 d2 u2 = true := by
  have : conf1 (some t) d2 u2 = true := by
    show ((lmem t u2).rec (deq d2 t) true : Bool) = true
    cases hl : lmem t u2 with
    | true => rfl
    | false =>
      rcases h with h | h
      · rw [lmem_of h] at hl; cases hl
      · rw [h]; exact Nat.beq_refl t
  unfold conf; rw [this]
theorem conf_read {d1 : Option Nat} {u1 u2 : List Nat} {t : Nat} (h : t ∈ u1) : conf d1 u1 (some t) u2 = true := by
  unfold conf
  cases conf1 d1 (some t) u2 with
  | true => rfl
  | false => exact lmem_of h
noncomputable def okRow (d : Option Nat) (us : List Nat) (m : Nat) (pre : List (Nat × Option Nat × List Nat)) : Bool := pre.rec true (fun x _ ih => (conf x.2.1 x.2.2 d us).rec ih ((tb m x.1).rec false ih))
theorem okRow_ok {d : Option Nat} {us : List Nat} {m : Nat} : ∀ {pre : List (Nat × Option Nat × List Nat)}, okRow d us m pre = true → ∀ x ∈ pre, conf x.2.1 x.2.2 d us = true → tb m x.1 = true
  | [], _, x, hx, _ => by cases hx
  | y :: pre, h, x, hx, hc => by
    have h : (conf y.2.1 y.2.2 d us).rec (okRow d us m pre) ((tb m y.1).rec false (okRow d us m pre)) = true := h
    cases h1 : conf y.2.1 y.2.2 d us with
    | false =>
      rw [h1] at h
      rcases List.mem_cons.1 hx with rfl | hx
      · rw [h1] at hc; cases hc
      · exact okRow_ok h x hx hc
    | true =>
      rw [h1] at h
      cases h2 : tb m y.1 with
      | false => rw [h2] at h; cases h
      | true =>
        rw [h2] at h
        rcases List.mem_cons.1 hx with rfl | hx
        · exact h2
        · exact okRow_ok h x hx hc
noncomputable def edOk (i : Nat) (es : List Edge) : Bool := es.rec true (fun e _ ih => (bindsA e).rec ih ((Nat.blt e.on i).rec false ih))
theorem edOk_ok {i : Nat} : ∀ {es : List Edge}, edOk i es = true → ∀ e ∈ es, bindsA e = true → e.on < i
  | [], _, e, he, _ => by cases he
  | y :: es, h, e, he, hb => by
    have h : (bindsA y).rec (edOk i es) ((Nat.blt y.on i).rec false (edOk i es)) = true := h
    cases h1 : bindsA y with
    | false =>
      rw [h1] at h
      rcases List.mem_cons.1 he with rfl | he
      · rw [h1] at hb; cases hb
      · exact edOk_ok h e he hb
    | true =>
      rw [h1] at h
      cases h2 : Nat.blt y.on i with
      | false => rw [h2] at h; cases h
      | true =>
        rw [h2] at h
        rcases List.mem_cons.1 he with rfl | he
        · exact Nat.le_of_ble_eq_true h2
        · exact edOk_ok h e he hb
noncomputable def regOk (ops : List Oper) (l : List Oper) : List Nat → Nat → List (Nat × Option Nat × List Nat) → Bool := l.rec (fun _ _ _ => true)
  (fun o _ ih ms i pre => ms.rec false (fun m ms _ => (edOk i o.after.toList).rec false ((okRow o.dst (usesO ops o) m pre).rec false (fN (i + 1) fun j => ih ms j ((i, o.dst, usesO ops o) :: pre)))))
theorem regOk_ok {ops : List Oper} : ∀ {l : List Oper} {ms : List Nat} {i : Nat} {pre : List (Nat × Option Nat × List Nat)}, regOk ops l ms i pre = true →
    (∀ (j : Nat) (o : Oper), l[j]? = some o → ∀ e ∈ o.after.toList, bindsA e = true → e.on < i + j) ∧
    (∀ (j : Nat) (o : Oper) (m : Nat), l[j]? = some o → ms[j]? = some m → (∀ x ∈ pre, conf x.2.1 x.2.2 o.dst (usesO ops o) = true → tb m x.1 = true) ∧
      ∀ (k : Nat) (o' : Oper), k < j → l[k]? = some o' → conf o'.dst (usesO ops o') o.dst (usesO ops o) = true → tb m (i + k) = true)
  | [], _, _, _, _ => ⟨fun j o h => by simp at h, fun j o m h => by simp at h⟩
  | o :: l, [], i, pre, h => by cases h
  | o :: l, m :: ms, i, pre, h => by
    have h : (edOk i o.after.toList).rec false ((okRow o.dst (usesO ops o) m pre).rec false (fN (i + 1) fun j => regOk ops l ms j ((i, o.dst, usesO ops o) :: pre))) = true := h
    cases h1 : edOk i o.after.toList with
    | false => rw [h1] at h; cases h
    | true =>
      rw [h1] at h
      cases h2 : okRow o.dst (usesO ops o) m pre with
      | false => rw [h2] at h; cases h
      | true =>
        rw [h2] at h
        have h : (fN (i + 1) fun j => regOk ops l ms j ((i, o.dst, usesO ops o) :: pre)) = true := h
        rw [fN_eq] at h
        obtain ⟨q1, q2⟩ := regOk_ok h
        refine ⟨fun j o' ho => ?_, fun j o' m' ho hm => ?_⟩
        · cases j with
          | zero => cases ho; exact edOk_ok h1
          | succ j => rw [show i + (j + 1) = i + 1 + j by omega]; exact q1 j o' (by simpa using ho)
        · cases j with
          | zero => cases ho; cases hm; exact ⟨okRow_ok h2, fun k _ hk => absurd hk (Nat.not_lt_zero k)⟩
          | succ j =>
            obtain ⟨r1, r2⟩ := q2 j o' m' (by simpa using ho) (by simpa using hm)
            refine ⟨fun x hx => r1 x (.tail _ hx), fun k o2 hk ho2 hc => ?_⟩
            cases k with
            | zero => cases ho2; exact r1 _ (.head _) hc
            | succ k => rw [show i + (k + 1) = i + 1 + k by omega]; exact r2 k o2 (by omega) (by simpa using ho2) hc
end X
end Go.Proofs.YtnkjnclpakfgnaaGreatDoor
namespace Go.Proofs.YtnkjnclpakfgnaaGreatDoor
namespace X

section
variable {M : Type}
noncomputable def stgs (l : List (Rc M)) : Nat → List (Nat × S M) := l.rec (fun _ => []) (fun r _ ih k => fN (k + 1) fun k' => match r.c with | .h _ post => (k', post) :: ih k' | _ => ih k')
theorem stgs_mem : ∀ {l : List (Rc M)} {k j : Nat} {r : Rc M} {pre post : S M}, l[j]? = some r → r.c = .h pre post → (k + j + 1, post) ∈ stgs l k
  | [], _, _, _, _, _, h, _ => by simp at h
  | x :: l, k, j, r, pre, post, h, hc => by
    show _ ∈ (fN (k + 1) fun k' => match x.c with | .h _ post => (k', post) :: stgs l k' | _ => stgs l k')
    rw [fN_eq]
    cases j with
    | zero => cases h; rw [hc]; exact .head _
    | succ j =>
      have := stgs_mem (k := k + 1) (l := l) (j := j) (by simpa using h) hc
      rw [show k + 1 + j + 1 = k + (j + 1) + 1 by omega] at this
      split
      · exact .tail _ this
      · exact this
noncomputable def hvs (l : List (Rc M)) : List Nat → Nat → List (Nat × Nat) := l.rec (fun _ _ => []) (fun r _ ih ms k => ms.rec [] (fun m ms _ => fN (k + 1) fun k' => match r.c with | .h _ _ => (k, m) :: ih ms k' | _ => ih ms k'))
theorem hvs_mem : ∀ {l : List (Rc M)} {ms : List Nat} {k : Nat} {x : Nat × Nat}, x ∈ hvs l ms k → ∃ (j : Nat) (r : Rc M), l[j]? = some r ∧ isH r = true ∧ ms[j]? = some x.2 ∧ x.1 = k + j
  | [], _, _, _, h => by cases h
  | r :: l, [], _, _, h => by cases h
  | r :: l, m :: ms, k, x, h => by
    have h : x ∈ (fN (k + 1) fun k' => match r.c with | .h _ _ => (k, m) :: hvs l ms k' | _ => hvs l ms k') := h
    rw [fN_eq] at h
    have go : x ∈ hvs l ms (k + 1) → ∃ (j : Nat) (r' : Rc M), (r :: l)[j]? = some r' ∧ isH r' = true ∧ (m :: ms)[j]? = some x.2 ∧ x.1 = k + j := fun h => by
      obtain ⟨j, r', h1, h2, h3, h4⟩ := hvs_mem h
      exact ⟨j + 1, r', by simpa using h1, h2, by simpa using h3, by omega⟩
    split at h
    · rename_i pre post hc
      rcases List.mem_cons.1 h with rfl | h
      · exact ⟨0, r, rfl, by unfold isH; rw [hc], rfl, rfl⟩
      · exact go h
    · exact go h
end
noncomputable def anyB {α : Type} (f : α → Bool) (l : List α) : Bool := l.rec false (fun x _ ih => (f x).rec ih true)
theorem anyB_ok {α : Type} {f : α → Bool} : ∀ {l : List α}, anyB f l = true → ∃ x ∈ l, f x = true
  | [], h => by cases h
  | x :: l, h => by
    have h : (f x).rec (anyB f l) true = true := h
    cases hx : f x with
    | true => exact ⟨x, .head _, hx⟩
    | false => rw [hx] at h; obtain ⟨y, h1, h2⟩ := anyB_ok h; exact ⟨y, .tail _ h1, h2⟩
noncomputable def allB {α : Type} (f : α → Bool) (l : List α) : Bool := l.rec true (fun x _ ih => (f x).rec false ih)
theorem allB_ok {α : Type} {f : α → Bool} : ∀ {l : List α}, allB f l = true → ∀ x ∈ l, f x = true
  | [], _, x, hx => by cases hx
  | y :: l, h, x, hx => by
    have h : (f y).rec false (allB f l) = true := h
    cases hy : f y with
    | false => rw [hy] at h; cases h
    | true =>
      rw [hy] at h
      rcases List.mem_cons.1 hx with rfl | hx
      · exact hy
      · exact allB_ok h x hx

section
variable (P : Program) {M : Type} (cf : CF M) (n : Nat)
noncomputable def clash1 (m c : Nat) (x : Nat × Nat) : Bool := (Nat.ble c x.1).rec false (tb m x.1)
noncomputable def clash (i m c : Nat) (x : Nat × Nat) : Bool := (clash1 m c x).rec ((Nat.blt x.1 c).rec false (tb x.2 i)) true
noncomputable def rd1 (hv : List (Nat × Nat)) (i m t : Nat) (a v : V) (x : Nat × S M) : Bool := (anyB (clash i m x.1) hv).rec ((eLoadV P x.2 t a).rec false (fun u => veq u v)) true
noncomputable def rdAll (hv : List (Nat × Nat)) (st : List (Nat × S M)) (l : List (Rc M)) : List Nat → Nat → Bool := l.rec (fun _ _ => true)
  (fun r _ ih ms i => ms.rec false (fun m ms _ => fN (i + 1) fun j => match r.c with
    | .r t a => (allB (rd1 P hv i m t a r.v) st).rec false (ih ms j)
    | _ => ih ms j))
/-- A region that draws. -/
noncomputable def drR (ops : List Oper) (L : Ls) (s : S M) : Option (Ls × S M) :=
  ob (masks ops []) fun ms => ck (regOk ops ops ms 0 []) (fN (s.nx + llen (ops.filter fun o => match o.op with | .alloc _ => true | .makeMap _ none => true | .buildSlice _ _ _ => true | _ => false)) fun nx1 =>
    ob (drun P cf n ops L ops ms ⟨0, [], ⟨s.H, nx1, s.m⟩, [], s.nx, []⟩) fun z => ck (Nat.ble z.2.nf nx1) (ck (rdAll P (hvs z.1 ms 0) ((0, ⟨s.H, nx1, s.m⟩) :: stgs z.1 0) z.1 ms 0)
      (ob (forceL z.2.pf z.2.s.H) fun H => some (z.2.R, ⟨H, z.2.s.nx, z.2.s.m⟩))))
end

section
variable {P : Program} {M : Type}
theorem clash_ok {i m c : Nat} {x : Nat × Nat} (h : clash i m c x = true) : (c ≤ x.1 ∧ tb m x.1 = true) ∨ (x.1 < c ∧ tb x.2 i = true) := by
  unfold clash at h
  cases h0 : clash1 m c x with
  | true =>
    unfold clash1 at h0
    cases h1 : Nat.ble c x.1 with
    | true => rw [h1] at h0; exact .inl ⟨Nat.le_of_ble_eq_true h1, h0⟩
    | false => rw [h1] at h0; cases h0
  | false =>
    rw [h0] at h
    cases h3 : Nat.blt x.1 c with
    | false => rw [h3] at h; cases h
    | true => rw [h3] at h; exact .inr ⟨Nat.le_of_ble_eq_true h3, h⟩
theorem rdAll_ok {hv : List (Nat × Nat)} {st : List (Nat × S M)} : ∀ {l : List (Rc M)} {ms : List Nat} {k : Nat}, rdAll P hv st l ms k = true → ∀ (j : Nat) (r : Rc M) (m t : Nat) (a : V), l[j]? = some r → ms[j]? = some m → r.c = .r t a →
    ∀ x ∈ st, (∀ y ∈ hv, clash (k + j) m x.1 y = false) → eLoadV P x.2 t a = some r.v
  | [], _, _, _, j, r, m, t, a, h, _, _ => by simp at h
  | r :: l, [], _, h, _, _, _, _, _, _, _, _ => by cases h
  | r :: l, m :: ms, k, h, j, r', m', t, a, hr, hm, hc => by
    intro x hx hy
    have h : (fN (k + 1) fun j => match r.c with | .r t a => (allB (rd1 P hv k m t a r.v) st).rec false (rdAll P hv st l ms j) | _ => rdAll P hv st l ms j) = true := h
    rw [fN_eq] at h
    cases j with
    | zero =>
      cases hr; cases hm
      rw [hc] at h
      dsimp only at h
      cases h1 : allB (rd1 P hv k m t a r.v) st with
      | false => rw [h1] at h; cases h
      | true =>
        have h2 := allB_ok h1 x hx
        unfold rd1 at h2
        cases h3 : anyB (clash k m x.1) hv with
        | true =>
          obtain ⟨y, hy1, hy2⟩ := anyB_ok h3
          have := hy y hy1
          rw [Nat.add_zero, hy2] at this; cases this
        | false =>
          rw [h3] at h2
          cases h4 : eLoadV P x.2 t a with
          | none => rw [h4] at h2; cases h2
          | some u => rw [h4] at h2; rw [veq_ok h2]
    | succ j =>
      have h5 : rdAll P hv st l ms (k + 1) = true := by
        split at h
        · cases h1 : allB (rd1 P hv k m _ _ r.v) st with
          | false => rw [h1] at h; cases h
          | true => rw [h1] at h; exact h
        · exact h
      exact rdAll_ok h5 j r' m' t a (by simpa using hr) (by simpa using hm) hc x hx (fun y hy' => by rw [show k + 1 + j = k + (j + 1) by omega]; exact hy y hy')
end
end X
end Go.Proofs.YtnkjnclpakfgnaaGreatDoor
