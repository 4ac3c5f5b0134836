/- A MAP AS A LIST OF PAIRS, whatever its elements: 'MapOf f w b m': block b of w is a map whose entries are m, in their order, the keys by f. What a look-up, a store, delete and len do to it. No program is named. · MAPS BY PAIRS OF NUMBERS: what a look-up and a store do. · The executor, 1: abstract values, and what they stand for. No conditions. -/
import Derived.Test.YtnkjnclpakfgnaaGreatDoorMa0
import Derived.Maps.OwnSet
namespace Go.Proofs.YtnkjnclpakfgnaaGreatDoor
open Go.RowKit

section
variable {α : Type} [DecidableEq α]
/-- Where a key stands, and what it holds. -/
def mfind : List (α × Value) → α → Nat → Option (Nat × Value)
  | [], _, _ => none
  | (y, u) :: r, x, i => if x = y then some (i, u) else mfind r x (i + 1)
def mget (m : List (α × Value)) (x : α) : Option Value := (mfind m x 0).map (·.2)
def mset : List (α × Value) → α → Value → List (α × Value)
  | [], x, v => [(x, v)]
  | (y, u) :: r, x, v => if x = y then (x, v) :: r else (y, u) :: mset r x v
def mdel : List (α × Value) → α → List (α × Value)
  | [], _ => []
  | (y, u) :: r, x => if x = y then r else (y, u) :: mdel r x

theorem mfind_shift (m : List (α × Value)) (x : α) (i : Nat) : mfind m x i = (mfind m x 0).map fun p => (p.1 + i, p.2) := by
  induction m generalizing i with
  | nil => rfl
  | cons a r ih =>
    obtain ⟨y, u⟩ := a
    simp only [mfind]
    by_cases h : x = y
    · simp [h]
    · rw [if_neg h, if_neg h, ih (i + 1), ih 1]
      cases mfind r x 0 with
      | none => rfl
      | some p => simp; omega
theorem mfind_none {m : List (α × Value)} {x : α} (h : mfind m x 0 = none) (v : Value) : mset m x v = m ++ [(x, v)] ∧ mdel m x = m := by
  induction m with
  | nil => exact ⟨rfl, rfl⟩
  | cons a r ih =>
    obtain ⟨y, u⟩ := a
    simp only [mfind] at h
    by_cases e : x = y
    · simp [e] at h
    · rw [if_neg e, mfind_shift] at h
      have h' : mfind r x 0 = none := by
        cases hq : mfind r x 0 with
        | none => rfl
        | some p => rw [hq] at h; simp at h
      have := ih h'
      refine ⟨?_, ?_⟩
      · simp only [mset, if_neg e, this.1]; rfl
      · simp only [mdel, if_neg e, this.2]
theorem mfind_some {m : List (α × Value)} {x : α} {j : Nat} {u : Value} (h : mfind m x 0 = some (j, u)) (v : Value) : j < m.length ∧ mset m x v = m.set j (x, v) ∧ mdel m x = m.eraseIdx j := by
  induction m generalizing j with
  | nil => simp [mfind] at h
  | cons a r ih =>
    obtain ⟨y, u'⟩ := a
    simp only [mfind] at h
    by_cases e : x = y
    · rw [if_pos e] at h
      simp only [Option.some.injEq, Prod.mk.injEq] at h
      obtain ⟨rfl, rfl⟩ := h
      simp [mset, mdel, e]
    · rw [if_neg e, mfind_shift] at h
      cases hq : mfind r x 0 with
      | none => rw [hq] at h; simp at h
      | some p =>
        obtain ⟨i, u2⟩ := p
        rw [hq] at h
        simp only [Option.map_some, Option.some.injEq, Prod.mk.injEq] at h
        obtain ⟨rfl, rfl⟩ := h
        obtain ⟨h1, h2, h3⟩ := ih hq
        refine ⟨?_, ?_, ?_⟩
        · simp only [List.length_cons]; omega
        · simp only [mset, if_neg e, h2]; rfl
        · simp only [mdel, if_neg e, h3]; rfl

theorem mfind_at {m : List (α × Value)} {x : α} {j : Nat} {u : Value} (h : mfind m x 0 = some (j, u)) : m[j]? = some (x, u) := by
  induction m generalizing j with
  | nil => simp [mfind] at h
  | cons a r ih =>
    obtain ⟨y, u'⟩ := a
    simp only [mfind] at h
    by_cases e : x = y
    · rw [if_pos e] at h
      simp only [Option.some.injEq, Prod.mk.injEq] at h
      obtain ⟨rfl, rfl⟩ := h
      simp [e]
    · rw [if_neg e, mfind_shift] at h
      cases hq : mfind r x 0 with
      | none => rw [hq] at h; simp at h
      | some p =>
        obtain ⟨i', u2⟩ := p
        rw [hq] at h
        simp only [Option.map_some, Option.some.injEq, Prod.mk.injEq] at h
        obtain ⟨rfl, rfl⟩ := h
        simpa using ih hq

theorem mget_nil (x : α) : mget [] x = none := rfl
theorem mget_cons (y : α) (u : Value) (r : List (α × Value)) (x : α) : mget ((y, u) :: r) x = if x = y then some u else mget r x := by
  unfold mget
  simp only [mfind]
  by_cases e : x = y
  · simp [e]
  · rw [if_neg e, if_neg e, mfind_shift]
    cases mfind r x 0 <;> rfl
theorem mget_mset (m : List (α × Value)) (x : α) (v : Value) (y : α) : mget (mset m x v) y = if y = x then some v else mget m y := by
  induction m with
  | nil => simp only [mset, mget_cons, mget_nil]
  | cons a r ih =>
    obtain ⟨z, u⟩ := a
    simp only [mset]
    by_cases e : x = z
    · subst e
      rw [if_pos rfl, mget_cons, mget_cons]
      by_cases e2 : y = x
      · simp [e2]
      · simp [e2]
    · rw [if_neg e, mget_cons, mget_cons, ih]
      by_cases e2 : y = z
      · subst e2
        simp [show ¬ y = x from fun h => e h.symm]
      · simp [e2]
/-- No key twice. -/
def Once (m : List (α × Value)) : Prop := (m.map (·.1)).Nodup
theorem mget_mem {m : List (α × Value)} {x : α} (h : x ∈ m.map (·.1)) : ∃ v, mget m x = some v := by
  induction m with
  | nil => simp at h
  | cons a r ih =>
    obtain ⟨z, u⟩ := a
    rw [mget_cons]
    by_cases e : x = z
    · exact ⟨u, by rw [if_pos e]⟩
    · rw [if_neg e]
      exact ih (by simpa [e] using h)
theorem mget_notMem {m : List (α × Value)} {x : α} (h : mget m x = none) : x ∉ m.map (·.1) := fun hm => by
  obtain ⟨v, hv⟩ := mget_mem hm
  rw [h] at hv; cases hv
theorem keys_mset (m : List (α × Value)) (x : α) (v : Value) : (mset m x v).map (·.1) = if (mget m x).isSome then m.map (·.1) else m.map (·.1) ++ [x] := by
  induction m with
  | nil => rfl
  | cons a r ih =>
    obtain ⟨z, u⟩ := a
    simp only [mset, mget_cons]
    by_cases e : x = z
    · simp [e]
    · rw [if_neg e, if_neg e, List.map_cons, ih, List.map_cons]
      split <;> rfl
theorem Once.mset {m : List (α × Value)} (h : Once m) (x : α) (v : Value) : Once (mset m x v) := by
  unfold Once at *
  rw [keys_mset]
  cases hg : mget m x with
  | some u => simpa using h
  | none =>
    simp only [Option.isSome_none, Bool.false_eq_true, if_false]
    rw [List.nodup_append]
    refine ⟨h, by simp, ?_⟩
    intro a ha b hb
    simp only [List.mem_singleton] at hb
    subst hb
    intro e
    subst e
    exact mget_notMem hg ha
omit [DecidableEq α] in
theorem Once.tail {a : α × Value} {r : List (α × Value)} (h : Once (a :: r)) : Once r ∧ a.1 ∉ r.map (·.1) := by
  unfold Once at *
  rw [List.map_cons, List.nodup_cons] at h
  exact ⟨h.2, h.1⟩
theorem mem_mdel {m : List (α × Value)} {x y : α} (h : y ∈ (mdel m x).map (·.1)) : y ∈ m.map (·.1) := by
  induction m with
  | nil => exact h
  | cons a r ih =>
    obtain ⟨z, u⟩ := a
    simp only [mdel] at h
    by_cases e : x = z
    · rw [if_pos e] at h; simp only [List.map_cons, List.mem_cons]; exact .inr h
    · rw [if_neg e] at h
      simp only [List.map_cons, List.mem_cons] at h ⊢
      exact h.imp_right ih
theorem Once.mdel {m : List (α × Value)} (h : Once m) (x : α) : Once (mdel m x) := by
  induction m with
  | nil => exact h
  | cons a r ih =>
    obtain ⟨z, u⟩ := a
    have ht := h.tail
    simp only [YtnkjnclpakfgnaaGreatDoor.mdel]
    by_cases e : x = z
    · rw [if_pos e]; exact ht.1
    · rw [if_neg e]
      have := ih ht.1
      unfold Once at *
      rw [List.map_cons, List.nodup_cons]
      exact ⟨fun hm => ht.2 (mem_mdel hm), this⟩
/-- The keys of a type are values of one make, told apart by looking. -/
structure KeyKind (P : Program) (kt : TypeId) (f : α → Value) : Prop where
  same : ∃ d, P.underlying kt = some d ∧ ∀ a b, Instr.sameNow d (f a) (f b) = some (decide (a = b))
  check : ∀ (em : Bool) (a : α) (w : World), (Instr.checkKey em 10000 kt (f a)).run P w = .ok () w
  stay : ∀ a, Instr.sameBits 10000 (f a) (f a) = true

/-- All came ahead of now. -/
def Bn (es : Array MapEntry) (ck : Nat) : Prop := ∀ e ∈ es.toList, e.born < ck
omit [DecidableEq α] in
theorem Bn.nil : Bn #[] 0 := fun e h => by simp at h
omit [DecidableEq α] in
theorem Bn.push {es : Array MapEntry} {ck : Nat} (h : Bn es ck) (k v : Value) : Bn (es.push { key := k, val := v, born := ck }) (ck + 1) := fun e he => by
  simp only [Array.toList_push, List.mem_append, List.mem_singleton] at he
  rcases he with he | rfl
  · exact Nat.lt_succ_of_lt (h e he)
  · exact Nat.lt_succ_self _
omit [DecidableEq α] in
theorem Bn.modify {es : Array MapEntry} {ck : Nat} (h : Bn es ck) (j : Nat) (k v : Value) : Bn (es.modify j fun e => { e with key := k, val := v }) ck := fun e he => by
  obtain ⟨i, hi⟩ := List.mem_iff_getElem?.1 he
  rw [Array.toList_modify, List.getElem?_modify] at hi
  obtain ⟨e0, h1, h2⟩ := Option.map_eq_some_iff.1 hi
  have := h e0 (List.mem_of_getElem? h1)
  split at h2 <;> (subst h2; exact this)
omit [DecidableEq α] in
theorem Bn.erase {es : Array MapEntry} {ck : Nat} (h : Bn es ck) (j : Nat) : Bn (es.eraseIdxIfInBounds j) ck := fun e he => by
  rw [Array.toList_eraseIdxIfInBounds] at he
  exact h e (List.mem_of_mem_eraseIdx he)
def MapOf (f : α → Value) (w : World) (b : Nat) (m : List (α × Value)) : Prop :=
  ∃ es clock, w.heap[b]? = some (.map es clock) ∧ (es.toList.map (fun e => (e.key, e.val)) = m.map fun x => (f x.1, x.2)) ∧ Bn es clock

variable {P : Program} {kt et t : TypeId} {f : α → Value} {w w' : World} {b : Nat} {m : List (α × Value)}

theorem findNow_eq {d : TypeDesc} (hs : ∀ a b, Instr.sameNow d (f a) (f b) = some (decide (a = b))) (x : α) :
    ∀ (l : List MapEntry) (m : List (α × Value)) (i : Nat), l.map (fun e => (e.key, e.val)) = m.map (fun x => (f x.1, x.2)) → Instr.findNow d (f x) l i = some (mfind m x i)
  | [], [], _, _ => rfl
  | [], _ :: _, _, h => by simp at h
  | _ :: _, [], _, h => by simp at h
  | e :: l, (y, u) :: m, i, h => by
    simp only [List.map_cons, List.cons.injEq, Prod.mk.injEq] at h
    obtain ⟨⟨h1, h2⟩, h3⟩ := h
    simp only [Instr.findNow, h1, hs, mfind]
    by_cases hx : x = y
    · simp [hx, h2]
    · simp only [hx, decide_false, if_false]
      exact findNow_eq hs x l m (i + 1) h3

theorem MapOf.find (h : MapOf f w b m) (K : KeyKind P kt f) (x : α) : ∃ es clock, w.heap[b]? = some (.map es clock) ∧ es.toList.map (fun e => (e.key, e.val)) = (m.map fun x => (f x.1, x.2)) ∧
    (∀ w', (Instr.findKey kt (f x) es.toList).run P w' = .ok (mfind m x 0) w') ∧ Bn es clock := by
  obtain ⟨es, clock, hb, hm, hn⟩ := h
  obtain ⟨d, hd, hs⟩ := K.same
  refine ⟨es, clock, hb, hm, fun w' => ?_, hn⟩
  simp [Instr.findKey, run_underlying hd, findNow_eq hs x es.toList m 0 hm, Result.andThen]

omit [DecidableEq α] in
theorem MapOf.upd {S : Nat → Prop} (h : MapOf f w b m) (u : Upd S w w') (hs : ¬ S b) : MapOf f w' b m := by
  obtain ⟨es, clock, hb, hm⟩ := h
  exact ⟨es, clock, u.heap hb hs, hm⟩
omit [DecidableEq α] in
theorem MapOf.same (h : MapOf f w b m) (u : Below w.heap.size w w') : MapOf f w' b m := h.upd (S := fun _ => False) (Upd.same u) id
omit [DecidableEq α] in
theorem MapOf.drewN (h : MapOf f w b m) (n : Nat) : MapOf f (w.drewN n) b m := h.upd (S := fun _ => False) (Upd.of_drewN n) id
omit [DecidableEq α] in
theorem MapOf.lt (h : MapOf f w b m) : b < w.heap.size := by
  obtain ⟨es, clock, hb, hm⟩ := h; exact lt_of_block hb
omit [DecidableEq α] in
theorem MapOf.made (w : World) (f : α → Value) : MapOf f (w.alloc (.map #[] 0)) w.heap.size [] := ⟨#[], 0, heap_alloc_new w _, rfl, Bn.nil⟩

theorem run_lookup_map (h : MapOf f w b m) (K : KeyKind P kt f) (ht : P.underlying t = some (.map kt et)) {z : Value} (hz : (zeroValue et).run P w = .ok z w) (x : α) (ok : Bool) :
    (Instr.lookup t (.map (some b)) (f x) ok).run P w = .ok (if ok then .tuple #[(mget m x).getD z, .bool (mget m x).isSome] else (mget m x).getD z) w := by
  obtain ⟨es, clock, hb, _, hf, _⟩ := h.find K x
  unfold mget
  cases hq : mfind m x 0 with
  | none =>
    rw [hq] at hf
    cases ok <;> simp [Instr.lookup, run_underlying ht, MapKept.run_getObj_map hb, K.check, hf, hz, Result.andThen]
  | some p =>
    rw [hq] at hf
    cases ok <;> simp [Instr.lookup, run_underlying ht, MapKept.run_getObj_map hb, K.check, hf, Result.andThen]

theorem setBlock_upd (w : World) (b : Nat) (o : Obj) : Upd (fun k => k = b) w (ChangeMaps.setBlock w b o) :=
  ⟨rfl, rfl, rfl, by simp [ChangeMaps.setBlock], fun k _ hk => by simp [ChangeMaps.setBlock, show ¬ b = k from fun e => hk e.symm]⟩
theorem setBlock_heap {w : World} {b : Nat} {o : Obj} (h : b < w.heap.size) : (ChangeMaps.setBlock w b o).heap[b]? = some o := by
  simp [ChangeMaps.setBlock, h]

theorem run_update_map (h : MapOf f w b m) (K : KeyKind P kt f) (ht : P.underlying t = some (.map kt et)) (x : α) (v : Value) :
    ∃ w', (Instr.mapUpdate t (.map (some b)) (f x) v).run P w = .ok () w' ∧ MapOf f w' b (mset m x v) ∧ Upd (fun k => k = b) w w' ∧ w'.heap.size = w.heap.size := by
  obtain ⟨es, clock, hb, hm, hf, hn⟩ := h.find K x
  have hlt := lt_of_block hb
  cases hq : mfind m x 0 with
  | none =>
    rw [hq] at hf
    refine ⟨ChangeMaps.setBlock w b (.map (es.push { key := f x, val := v, born := clock }) (clock + 1)), ?_, ⟨_, _, setBlock_heap hlt, ?_, hn.push _ _⟩, setBlock_upd _ _ _, by simp [ChangeMaps.setBlock]⟩
    · simp [Instr.mapUpdate, run_underlying ht, MapKept.run_getObj_map hb, K.check, hf, MapKept.run_setObj_map _ hb, Result.andThen, ChangeMaps.setBlock]
    · rw [(mfind_none hq v).1, List.map_append, ← hm]; simp
  | some p =>
    obtain ⟨j, u⟩ := p
    rw [hq] at hf
    obtain ⟨h1, h2, _⟩ := mfind_some hq v
    have hk : ∀ w', (Instr.keyThatStays (((es[j]?).map (·.key)).getD (f x)) (f x)).run P w' = .ok (f x) w' := by
      intro w'
      have hes : es.toList[j]?.map (fun e => (e.key, e.val)) = some (f x, u) := by
        have e1 := congrArg (fun l : List (Value × Value) => l[j]?) hm
        simp only [List.getElem?_map] at e1
        rw [e1]
        rw [mfind_at hq]; rfl
      have hkey : (es[j]?).map (·.key) = some (f x) := by
        rw [← Array.getElem?_toList]
        cases hj : es.toList[j]? with
        | none => rw [hj] at hes; simp at hes
        | some e =>
          rw [hj] at hes
          simp only [Option.map_some, Option.some.injEq, Prod.mk.injEq] at hes
          simp [hes.1]
      rw [hkey]
      simp [Instr.keyThatStays, K.stay]
    refine ⟨ChangeMaps.setBlock w b (.map (es.modify j fun e => { e with key := f x, val := v }) clock), ?_, ⟨_, _, setBlock_heap hlt, ?_, hn.modify _ _ _⟩, setBlock_upd _ _ _, by simp [ChangeMaps.setBlock]⟩
    · simp [Instr.mapUpdate, run_underlying ht, MapKept.run_getObj_map hb, K.check, hf, hk, MapKept.run_setObj_map _ hb, Result.andThen, ChangeMaps.setBlock]
    · rw [h2, List.map_set, ← hm, Array.toList_modify]
      apply List.ext_getElem?
      intro i
      simp only [List.getElem?_map, List.getElem?_modify, List.getElem?_set, List.length_map, Array.length_toList]
      by_cases e : j = i
      · subst e
        have hjl : j < es.size := by
          have := congrArg List.length hm; simp at this; omega
        simp [hjl]
      · simp [e]

theorem run_delete_map (h : MapOf f w b m) (K : KeyKind P kt f) (ht : P.underlying t = some (.map kt et)) (x : α) (ty : TypeId) :
    ∃ w', (Builtin.delete_ #[t, kt] ty #[.map (some b), f x]).run P w = .ok (.tuple #[]) w' ∧ MapOf f w' b (mdel m x) ∧ Upd (fun k => k = b) w w' ∧ w'.heap.size = w.heap.size := by
  obtain ⟨es, clock, hb, hm, hf, hn⟩ := h.find K x
  have hlt := lt_of_block hb
  cases hq : mfind m x 0 with
  | none =>
    rw [hq] at hf
    refine ⟨ChangeMaps.setBlock w b (.map es clock), ?_, ⟨_, _, setBlock_heap hlt, ?_, hn⟩, setBlock_upd _ _ _, by simp [ChangeMaps.setBlock]⟩
    · simp [Builtin.delete_, run_underlying ht, MapKept.run_getObj_map hb, K.check, hf, MapKept.run_setObj_map _ hb, Result.andThen, ChangeMaps.setBlock]
    · rw [(mfind_none hq .nilFunc).2, hm]
  | some p =>
    obtain ⟨j, u⟩ := p
    rw [hq] at hf
    obtain ⟨h1, _, h3⟩ := mfind_some hq .nilFunc
    refine ⟨ChangeMaps.setBlock w b (.map (es.eraseIdxIfInBounds j) clock), ?_, ⟨_, _, setBlock_heap hlt, ?_, hn.erase _⟩, setBlock_upd _ _ _, by simp [ChangeMaps.setBlock]⟩
    · simp [Builtin.delete_, run_underlying ht, MapKept.run_getObj_map hb, K.check, hf, MapKept.run_setObj_map _ hb, Result.andThen, ChangeMaps.setBlock]
    · rw [h3, Array.toList_eraseIdxIfInBounds, ChangeMaps.map_eraseIdx, ChangeMaps.map_eraseIdx, hm]

omit [DecidableEq α] in
/-! ### at the operation -/
variable {ops : Array Oper} {rest : List Oper} {o : Oper} {a : Act} {Q : Exit → Act → World → Prop}
theorem wpList_update_map (hg : o.guard = none) (mo xo vo : Operand) (t : TypeId) (hop : o.op = Op.mapUpdate t mo xo vo)
    (kt et : TypeId) (K : KeyKind P kt f) (ht : P.underlying t = some (.map kt et)) (b : Nat) (m : List (α × Value))
    (hm : a.eval mo = .map (some b)) (hown : MapOf f w b m) (x : α) (v : Value) (hx : a.eval xo = f x) (hv : a.eval vo = v)
    (hK : ∀ w', MapOf f w' b (mset m x v) → Upd (fun k => k = b) w w' → wpList P ops Q rest (a.put o.dst undef) w') :
    wpList P ops Q (o :: rest) a w := by
  refine wpList_plain hg fun K' hK' => ?_
  obtain ⟨w', hr, h1, h2, _⟩ := run_update_map hown K ht x v
  unfold Oper.wp
  simp [execOp, hop, hm, hx, hv, hr, Result.andThen]
  exact hK' _ _ (hK w' h1 h2)
end

theorem keyKind_int {P : Program} {kt : TypeId} {k : IntKind} (h : P.underlying kt = some (.int k)) : KeyKind P kt (Value.int k) := by
  refine ⟨⟨_, h, fun a b => ?_⟩, fun em a w => ?_, fun a => ?_⟩
  · simp [Instr.sameNow, Bool.beq_eq_decide_eq]
  · unfold Instr.checkKey
    simp [run_underlying h]
  · simp [Instr.sameBits]
theorem keyKind_string {P : Program} {kt : TypeId} (h : P.underlying kt = some .string) : KeyKind P kt (fun s : ByteArray => Value.string s) := by
  refine ⟨⟨_, h, fun a b => ?_⟩, fun em a w => ?_, fun a => ?_⟩
  · simp only [Instr.sameNow, Option.some.injEq]
    by_cases e : a = b
    · simp [e, (MapKept.bytes_beq b b).2 rfl]
    · simp only [e, decide_false]
      cases hb : a == b with
      | false => rfl
      | true => exact absurd ((MapKept.bytes_beq a b).1 hb) e
  · unfold Instr.checkKey
    simp [run_underlying h]
  · simp only [Instr.sameBits]; exact (MapKept.bytes_beq a a).2 rfl
end Go.Proofs.YtnkjnclpakfgnaaGreatDoor
namespace Go.Proofs.YtnkjnclpakfgnaaGreatDoor
open Go.RowKit
/-- A pair as one number. -/
def pairK (n : Int) : Value := .agg #[.int .i64 (n / 65536), .int .i64 (n % 65536)]
theorem pairK_eq (p q : Nat) (h : q < 65536) : pairK (((p * 65536 + q : Nat)) : Int) = .agg #[.int .i64 p, .int .i64 q] := by
  unfold pairK
  rw [show (((p * 65536 + q : Nat) : Int) / 65536) = p by omega, show (((p * 65536 + q : Nat) : Int) % 65536) = q by omega]
structure PairKind (P : Program) (kt : TypeId) : Prop where
  now : ∃ d, P.underlying kt = some d ∧ ∀ a b, Instr.sameNow d (pairK a) (pairK b) = none
  eq : ∀ (a b : Int) (w : World), (Op.equal kt (pairK a) (pairK b)).run P w = .ok (decide (a = b)) w
  check : ∀ (em : Bool) (a : Int) (w : World), (Instr.checkKey em 10000 kt (pairK a)).run P w = .ok () w

section
variable {P : Program} {kt et t : TypeId} {w : World} {b : Nat} {m : List (Int × Value)}
theorem asking_eq (K : PairKind P kt) (x : Int) (w : World) : ∀ (l : List MapEntry) (m : List (Int × Value)) (i : Nat), l.map (fun e => (e.key, e.val)) = m.map (fun x => (pairK x.1, x.2)) → (Instr.findAsking kt (pairK x) l i).run P w = .ok (mfind m x i) w
  | [], [], _, _ => rfl
  | [], _ :: _, _, h => by simp at h
  | _ :: _, [], _, h => by simp at h
  | e :: l, (y, u) :: m, i, h => by
    simp only [List.map_cons, List.cons.injEq, Prod.mk.injEq] at h
    obtain ⟨⟨h1, h2⟩, h3⟩ := h
    simp only [Instr.findAsking, h1, Sem.run_bind, K.eq, mfind, Result.andThen]
    by_cases hx : x = y
    · simp [hx, h2]
    · simp only [hx, decide_false, if_false, Bool.false_eq_true]
      exact asking_eq K x w l m (i + 1) h3
theorem pair_find (h : MapOf pairK w b m) (K : PairKind P kt) (x : Int) : ∃ es clock, w.heap[b]? = some (.map es clock) ∧ es.toList.map (fun e => (e.key, e.val)) = (m.map fun x => (pairK x.1, x.2)) ∧
    (∀ w', (Instr.findKey kt (pairK x) es.toList).run P w' = .ok (mfind m x 0) w') ∧ Bn es clock := by
  obtain ⟨es, clock, hb, hm, hn⟩ := h
  obtain ⟨d, hd, hs⟩ := K.now
  refine ⟨es, clock, hb, hm, fun w' => ?_, hn⟩
  have ha := asking_eq K x w' es.toList m 0 hm
  revert hm ha
  generalize es.toList = l
  intro hm ha
  simp only [Instr.findKey, Sem.run_bind, run_underlying hd, Result.andThen_ok]
  cases l with
  | nil =>
    cases m with
    | nil => rfl
    | cons => simp at hm
  | cons e l =>
    cases m with
    | nil => simp at hm
    | cons y m =>
      have he : e.key = pairK y.1 := by simp at hm; exact hm.1.1
      rw [show Instr.findNow d (pairK x) (e :: l) 0 = none by simp [Instr.findNow, he, hs]]
      exact ha
theorem run_lookup_pair (h : MapOf pairK w b m) (K : PairKind P kt) (ht : P.underlying t = some (.map kt et)) {z : Value} (hz : (zeroValue et).run P w = .ok z w) (x : Int) (ok : Bool) :
    (Instr.lookup t (.map (some b)) (pairK x) ok).run P w = .ok (if ok then .tuple #[(mget m x).getD z, .bool (mget m x).isSome] else (mget m x).getD z) w := by
  obtain ⟨es, clock, hb, _, hf, _⟩ := pair_find h K x
  unfold mget
  cases hq : mfind m x 0 with
  | none =>
    rw [hq] at hf
    cases ok <;> simp [Instr.lookup, run_underlying ht, MapKept.run_getObj_map hb, K.check, hf, hz, Result.andThen]
  | some p =>
    rw [hq] at hf
    cases ok <;> simp [Instr.lookup, run_underlying ht, MapKept.run_getObj_map hb, K.check, hf, Result.andThen]
theorem pair_stay (x : Int) : Instr.sameBits 10000 (pairK x) (pairK x) = true := by simp [pairK, Instr.sameBits]
theorem run_update_pair (h : MapOf pairK w b m) (K : PairKind P kt) (ht : P.underlying t = some (.map kt et)) (x : Int) (v : Value) :
    ∃ w', (Instr.mapUpdate t (.map (some b)) (pairK x) v).run P w = .ok () w' ∧ MapOf pairK w' b (mset m x v) ∧ Upd (fun k => k = b) w w' ∧ w'.heap.size = w.heap.size := by
  obtain ⟨es, clock, hb, hm, hf, hn⟩ := pair_find h K x
  have hlt := lt_of_block hb
  cases hq : mfind m x 0 with
  | none =>
    rw [hq] at hf
    refine ⟨ChangeMaps.setBlock w b (.map (es.push { key := pairK x, val := v, born := clock }) (clock + 1)), ?_, ⟨_, _, setBlock_heap hlt, ?_, hn.push _ _⟩, setBlock_upd _ _ _, by simp [ChangeMaps.setBlock]⟩
    · simp [Instr.mapUpdate, run_underlying ht, MapKept.run_getObj_map hb, K.check, hf, MapKept.run_setObj_map _ hb, Result.andThen, ChangeMaps.setBlock]
    · rw [(mfind_none hq v).1, List.map_append, ← hm]; simp
  | some p =>
    obtain ⟨j, u⟩ := p
    rw [hq] at hf
    obtain ⟨h1, h2, _⟩ := mfind_some hq v
    have hk : ∀ w', (Instr.keyThatStays (((es[j]?).map (·.key)).getD (pairK x)) (pairK x)).run P w' = .ok (pairK x) w' := by
      intro w'
      have hes : es.toList[j]?.map (fun e => (e.key, e.val)) = some (pairK x, u) := by
        have e1 := congrArg (fun l : List (Value × Value) => l[j]?) hm
        simp only [List.getElem?_map] at e1
        rw [e1]
        rw [mfind_at hq]; rfl
      have hkey : (es[j]?).map (·.key) = some (pairK x) := by
        rw [← Array.getElem?_toList]
        cases hj : es.toList[j]? with
        | none => rw [hj] at hes; simp at hes
        | some e =>
          rw [hj] at hes
          simp only [Option.map_some, Option.some.injEq, Prod.mk.injEq] at hes
          simp [hes.1]
      rw [hkey]
      simp [Instr.keyThatStays, pair_stay]
    refine ⟨ChangeMaps.setBlock w b (.map (es.modify j fun e => { e with key := pairK x, val := v }) clock), ?_, ⟨_, _, setBlock_heap hlt, ?_, hn.modify _ _ _⟩, setBlock_upd _ _ _, by simp [ChangeMaps.setBlock]⟩
    · simp [Instr.mapUpdate, run_underlying ht, MapKept.run_getObj_map hb, K.check, hf, hk, MapKept.run_setObj_map _ hb, Result.andThen, ChangeMaps.setBlock]
    · rw [h2, List.map_set, ← hm, Array.toList_modify]
      apply List.ext_getElem?
      intro i
      simp only [List.getElem?_map, List.getElem?_modify, List.getElem?_set, List.length_map, Array.length_toList]
      by_cases e : j = i
      · subst e
        have hjl : j < es.size := by
          have := congrArg List.length hm; simp at this; omega
        simp [hjl]
      · simp [e]
end
end Go.Proofs.YtnkjnclpakfgnaaGreatDoor
namespace Go.Proofs.YtnkjnclpakfgnaaGreatDoor
namespace X

/-- An abstract value: block names of its own, symbols for numbers. -/
inductive V where
  | bool (b : Bool)
  | int (k : IntKind) (n : Int)
  | sym (k : IntKind) (s : Nat)
  | str (l : List Nat)
  | ptr (id off : Nat)
  | nilp
  | sl (id off len cap : Nat)
  | sg (id i sz len : Nat)
  | se
  | nils
  | fn (f : Nat) (first caps : List V)
  | nilf
  | ifc (t : Nat) (v : V)
  | nili
  | agg (l : List V)
  | tup (l : List V)
  | mp (id : Nat)
  | bs (id n : Nat)
  | un (k : IntKind)
  | any
deriving Inhabited

/-- Which block a name is, behind how many cells it begins, and how many elements a row that grew has room for; what number a symbol is; names from top on are free. -/
structure Env where
  blk : Nat → Option (Nat × (Nat × Nat))
  sy : Nat → Option Int
  top : Nat

/-- A string's bytes. -/
def bytesN (S : ByteArray) : List Nat := S.data.toList.map UInt8.toNat

inductive VR (E : Env) : V → Value → Prop where
  | bool (b : Bool) : VR E (.bool b) (.bool b)
  | int (k : IntKind) (n : Int) : VR E (.int k n) (.int k n)
  | sym {k : IntKind} {s : Nat} {n : Int} (h : E.sy s = some n) : VR E (.sym k s) (.int k n)
  | str {l : List Nat} {S : ByteArray} (h : bytesN S = l) : VR E (.str l) (.string S)
  | ptr {id off b : Nat} {c : Nat × Nat} (h : E.blk id = some (b, c)) : VR E (.ptr id off) (.pointer (some ⟨b, c.1 + off, none⟩))
  | nilp : VR E .nilp (.pointer none)
  | sl {id off len cap b : Nat} {c : Nat × Nat} (h : E.blk id = some (b, c)) : VR E (.sl id off len cap) (.slice (some ⟨b, c.1 + off, none⟩) len cap)
  | sg {id i sz len b : Nat} {c : Nat × Nat} (h : E.blk id = some (b, c)) (hc : i + len ≤ c.2) : VR E (.sg id i sz len) (.slice (some ⟨b, c.1 + i * sz, none⟩) len (c.2 - i))
  | se {a : Addr} {c : Nat} : VR E .se (.slice (some a) 0 c)
  | nils : VR E .nils (.slice none 0 0)
  | fn {f : Nat} {k : List V} {F : Array Value} {l : List V} {L : Array Value} (hk : k.length = F.size) (h1 : ∀ (i : Nat) (v : V) (W : Value), k[i]? = some v → F[i]? = some W → VR E v W)
      (hl : l.length = L.size) (h : ∀ (i : Nat) (v : V) (W : Value), l[i]? = some v → L[i]? = some W → VR E v W) : VR E (.fn f k l) (.func (.func f) F L)
  | nilf : VR E .nilf .nilFunc
  | ifc {t : Nat} {v : V} {W : Value} (h : VR E v W) : VR E (.ifc t v) (.iface t W)
  | nili : VR E .nili .nilIface
  | agg {l : List V} {L : Array Value} (hl : l.length = L.size) (h : ∀ (i : Nat) (v : V) (W : Value), l[i]? = some v → L[i]? = some W → VR E v W) : VR E (.agg l) (.agg L)
  | tup {l : List V} {L : Array Value} (hl : l.length = L.size) (h : ∀ (i : Nat) (v : V) (W : Value), l[i]? = some v → L[i]? = some W → VR E v W) : VR E (.tup l) (.tuple L)
  | mp {id b : Nat} {c : Nat × Nat} (h : E.blk id = some (b, c)) : VR E (.mp id) (.map (some b))
  | bs {id n b : Nat} {c : Nat × Nat} (h : E.blk id = some (b, c)) : VR E (.bs id n) (.slice (some ⟨b, c.1, none⟩) n c.2)
  | un {k : IntKind} {n : Int} : VR E (.un k) (.int k n)
  | any {W : Value} (h : W.oneCell' = true) : VR E .any W

/-- A row of values. -/
def VRs (E : Env) (l : List V) (L : List Value) : Prop := l.length = L.length ∧ ∀ (i : Nat) (v : V) (W : Value), l[i]? = some v → L[i]? = some W → VR E v W

/-- One names more than the other. -/
structure Env.sub (E E' : Env) : Prop where
  blk : ∀ {id x}, E.blk id = some x → E'.blk id = some x
  sy : ∀ {s n}, E.sy s = some n → E'.sy s = some n

/-- One says more than the other. -/
structure Env.le (E E' : Env) : Prop where
  blk : ∀ {id x}, E.blk id = some x → E'.blk id = some x
  sy : ∀ {s n}, E.sy s = some n → E'.sy s = some n
  top : E.top ≤ E'.top
  new : ∀ {id}, E.blk id = none → id < E.top → E'.blk id = none

theorem Env.le.refl (E : Env) : E.le E := ⟨id, id, Nat.le_refl _, fun h _ => h⟩
theorem Env.le.trans {E E' E'' : Env} (h : E.le E') (h' : E'.le E'') : E.le E'' := ⟨fun x => h'.blk (h.blk x), fun x => h'.sy (h.sy x), Nat.le_trans h.top h'.top, fun x y => h'.new (h.new x y) (Nat.lt_of_lt_of_le y h.top)⟩

theorem Env.le.sub {E E' : Env} (h : E.le E') : E.sub E' := ⟨h.blk, h.sy⟩

theorem VR.mono' {E E' : Env} (h : E.sub E') {v : V} {W : Value} (hv : VR E v W) : VR E' v W := by
  induction hv with
  | bool b => exact .bool b
  | int k n => exact .int k n
  | sym x => exact .sym (h.sy x)
  | str x => exact .str x
  | ptr x => exact .ptr (h.blk x)
  | nilp => exact .nilp
  | sl x => exact .sl (h.blk x)
  | sg x y => exact .sg (h.blk x) y
  | se => exact .se
  | nils => exact .nils
  | fn hk _ hl _ ih1 ih => exact .fn hk ih1 hl ih
  | nilf => exact .nilf
  | ifc _ ih => exact .ifc ih
  | nili => exact .nili
  | agg hl _ ih => exact .agg hl ih
  | tup hl _ ih => exact .tup hl ih
  | mp x => exact .mp (h.blk x)
  | bs x => exact .bs (h.blk x)
  | un => exact .un
  | any h => exact .any h

theorem VR.mono {E E' : Env} (h : E.le E') {v : V} {W : Value} (hv : VR E v W) : VR E' v W := hv.mono' h.sub
theorem VRs.mono' {E E' : Env} (h : E.sub E') {l : List V} {L : List Value} (hv : VRs E l L) : VRs E' l L := ⟨hv.1, fun i v W a b => (hv.2 i v W a b).mono' h⟩
theorem VRs.mono {E E' : Env} (h : E.le E') {l : List V} {L : List Value} (hv : VRs E l L) : VRs E' l L := ⟨hv.1, fun i v W a b => (hv.2 i v W a b).mono h⟩
theorem VRs.nil {E : Env} : VRs E [] [] := ⟨rfl, fun i v W h => by simp at h⟩
theorem VRs.cons {E : Env} {v : V} {W : Value} {l : List V} {L : List Value} (h : VR E v W) (hl : VRs E l L) : VRs E (v :: l) (W :: L) := ⟨by simp [hl.1], fun i x y => by
  cases i with
  | zero => simp only [List.getElem?_cons_zero, Option.some.injEq]; rintro rfl rfl; exact h
  | succ i => simpa only [List.getElem?_cons_succ] using hl.2 i x y⟩
theorem VRs.head {E : Env} {v : V} {l : List V} {L : List Value} (h : VRs E (v :: l) L) : ∃ W M, L = W :: M ∧ VR E v W ∧ VRs E l M := by
  cases L with
  | nil => exact absurd h.1 (by simp)
  | cons W M => exact ⟨W, M, rfl, h.2 0 v W rfl rfl, by simpa using h.1, fun i x y a b => h.2 (i + 1) x y (by simpa using a) (by simpa using b)⟩
theorem VRs.append {E : Env} {l m : List V} {L M : List Value} (h : VRs E l L) (h' : VRs E m M) : VRs E (l ++ m) (L ++ M) := by
  induction l generalizing L with
  | nil => cases L with
    | nil => exact h'
    | cons _ _ => exact absurd h.1 (by simp)
  | cons v l ih => obtain ⟨W, N, rfl, h1, h2⟩ := h.head; exact .cons h1 (ih h2)
theorem VRs.take {E : Env} {l : List V} {L : List Value} (h : VRs E l L) (n : Nat) : VRs E (l.take n) (L.take n) :=
  ⟨by simp [h.1], fun i v W a b => by
    rw [List.getElem?_take] at a b
    split at a
    · exact h.2 i v W a (by simpa [*] using b)
    · cases a⟩
theorem VRs.drop {E : Env} {l : List V} {L : List Value} (h : VRs E l L) (n : Nat) : VRs E (l.drop n) (L.drop n) :=
  ⟨by simp [h.1], fun i v W a b => h.2 (n + i) v W (by simpa [List.getElem?_drop] using a) (by simpa [List.getElem?_drop] using b)⟩
theorem VRs.get {E : Env} {l : List V} {L : List Value} (h : VRs E l L) {i : Nat} {v : V} (hi : l[i]? = some v) : ∃ W, L[i]? = some W ∧ VR E v W := by
  have : i < L.length := by rw [← h.1]; exact (List.getElem?_eq_some_iff.1 hi).1
  exact ⟨L[i], List.getElem?_eq_getElem this, h.2 i v _ hi (List.getElem?_eq_getElem this)⟩
theorem VRs.set {E : Env} {l : List V} {L : List Value} (h : VRs E l L) {v : V} {W : Value} (hv : VR E v W) (i : Nat) : VRs E (l.set i v) (L.set i W) := by
  refine ⟨by simp [h.1], fun j x y a b => ?_⟩
  rw [List.getElem?_set] at a b
  split at a
  · split at a
    · simp only [Option.some.injEq] at a; subst a
      rename_i hij hl
      have : i < L.length := by rw [← h.1]; exact hl
      have b' : j < L.length ∧ W = y := by simpa [hij, this] using b
      exact b'.2 ▸ hv
    · cases a
  · exact h.2 j x y a (by simpa [*] using b)
theorem VRs.replicate {E : Env} {v : V} {W : Value} (h : VR E v W) (n : Nat) : VRs E (List.replicate n v) (List.replicate n W) :=
  ⟨by simp, fun i x y a b => by
    simp only [List.getElem?_replicate] at a b
    split at a
    · simp only [Option.some.injEq] at a; subst a
      simp only [*, ↓reduceIte, Option.some.injEq] at b; subst b; exact h
    · cases a⟩

theorem VRs.fn {E : Env} {f : Nat} {k l : List V} {F L : Array Value} (hk : VRs E k F.toList) (h : VRs E l L.toList) : VR E (.fn f k l) (.func (.func f) F L) :=
  .fn (by simpa using hk.1) (fun i v W a b => hk.2 i v W a (by simpa using b)) (by simpa using h.1) fun i v W a b => h.2 i v W a (by simpa using b)
theorem VRs.agg {E : Env} {l : List V} {L : Array Value} (h : VRs E l L.toList) : VR E (.agg l) (.agg L) := .agg (by simpa using h.1) fun i v W a b => h.2 i v W a (by simpa using b)
theorem VRs.tup {E : Env} {l : List V} {L : Array Value} (h : VRs E l L.toList) : VR E (.tup l) (.tuple L) := .tup (by simpa using h.1) fun i v W a b => h.2 i v W a (by simpa using b)
theorem VR.fn_inv {E : Env} {f : Nat} {k l : List V} {W : Value} (h : VR E (.fn f k l) W) : ∃ F L, W = .func (.func f) F L ∧ VRs E k F.toList ∧ VRs E l L.toList := by
  cases h with | fn hk h1 hl h => exact ⟨_, _, rfl, ⟨by simpa using hk, fun i v W a b => h1 i v W a (by simpa using b)⟩, by simpa using hl, fun i v W a b => h i v W a (by simpa using b)⟩
theorem VR.agg_inv {E : Env} {l : List V} {W : Value} (h : VR E (.agg l) W) : ∃ L, W = .agg L ∧ VRs E l L.toList := by
  cases h with | agg hl h => exact ⟨_, rfl, by simpa using hl, fun i v W a b => h i v W a (by simpa using b)⟩
theorem VR.tup_inv {E : Env} {l : List V} {W : Value} (h : VR E (.tup l) W) : ∃ L, W = .tuple L ∧ VRs E l L.toList := by
  cases h with | tup hl h => exact ⟨_, rfl, by simpa using hl, fun i v W a b => h i v W a (by simpa using b)⟩

end X
end Go.Proofs.YtnkjnclpakfgnaaGreatDoor
