/-
  A MAP AS A LIST OF PAIRS, whatever its elements: 'MapOf f w b m': block b of w is a map whose entries are m, in their order, the keys by f. What a look-up, a store, delete and len do to it. No program is named. No condition.
-/
import Derived.Test.YtdohkjpapmkhjaaMem
import Derived.Maps.OwnSet
namespace Go.Proofs.Ytdohkjpapmkhjaa
open Go.RowKit

section
variable {α : Type} [DecidableEq α]
/-- Where a key stands, and what it holds. -/
def mfind : List (α × Value) → α → Nat → Option (Nat × Value)
  | [], _, _ => none
  | (y, u) :: r, x, i => if x = y then some (i, u) else mfind r x (i + 1)
def mget (m : List (α × Value)) (x : α) : Option Value := (mfind m x 0).map (·.2)
def mset : List (α × Value) → α → Value → List (α × Value)
  | [], x, v => [(x, v)]
  | (y, u) :: r, x, v => if x = y then (x, v) :: r else (y, u) :: mset r x v
def mdel : List (α × Value) → α → List (α × Value)
  | [], _ => []
  | (y, u) :: r, x => if x = y then r else (y, u) :: mdel r x

theorem mfind_shift (m : List (α × Value)) (x : α) (i : Nat) : mfind m x i = (mfind m x 0).map fun p => (p.1 + i, p.2) := by
  induction m generalizing i with
  | nil => rfl
  | cons a r ih =>
    obtain ⟨y, u⟩ := a
    simp only [mfind]
    by_cases h : x = y
    · simp [h]
    · rw [if_neg h, if_neg h, ih (i + 1), ih 1]
      cases mfind r x 0 with
      | none => rfl
      | some p => simp; omega
theorem mfind_none {m : List (α × Value)} {x : α} (h : mfind m x 0 = none) (v : Value) : mset m x v = m ++ [(x, v)] ∧ mdel m x = m := by
  induction m with
  | nil => exact ⟨rfl, rfl⟩
  | cons a r ih =>
    obtain ⟨y, u⟩ := a
    simp only [mfind] at h
    by_cases e : x = y
    · simp [e] at h
    · rw [if_neg e, mfind_shift] at h
      have h' : mfind r x 0 = none := by
        cases hq : mfind r x 0 with
        | none => rfl
        | some p => rw [hq] at h; simp at h
      have := ih h'
      refine ⟨?_, ?_⟩
      · simp only [mset, if_neg e, this.1]; rfl
      · simp only [mdel, if_neg e, this.2]
theorem mfind_some {m : List (α × Value)} {x : α} {j : Nat} {u : Value} (h : mfind m x 0 = some (j, u)) (v : Value) : j < m.length ∧ mset m x v = m.set j (x, v) ∧ mdel m x = m.eraseIdx j := by
  induction m generalizing j with
  | nil => simp [mfind] at h
  | cons a r ih =>
    obtain ⟨y, u'⟩ := a
    simp only [mfind] at h
    by_cases e : x = y
    · rw [if_pos e] at h
      simp only [Option.some.injEq, Prod.mk.injEq] at h
      obtain ⟨rfl, rfl⟩ := h
      simp [mset, mdel, e]
    · rw [if_neg e, mfind_shift] at h
      cases hq : mfind r x 0 with
      | none => rw [hq] at h; simp at h
      | some p =>
        obtain ⟨i, u2⟩ := p
        rw [hq] at h
        simp only [Option.map_some, Option.some.injEq, Prod.mk.injEq] at h
        obtain ⟨rfl, rfl⟩ := h
        obtain ⟨h1, h2, h3⟩ := ih hq
        refine ⟨?_, ?_, ?_⟩
        · simp only [List.length_cons]; omega
        · simp only [mset, if_neg e, h2]; rfl
        · simp only [mdel, if_neg e, h3]; rfl

theorem mfind_at {m : List (α × Value)} {x : α} {j : Nat} {u : Value} (h : mfind m x 0 = some (j, u)) : m[j]? = some (x, u) := by
  induction m generalizing j with
  | nil => simp [mfind] at h
  | cons a r ih =>
    obtain ⟨y, u'⟩ := a
    simp only [mfind] at h
    by_cases e : x = y
    · rw [if_pos e] at h
      simp only [Option.some.injEq, Prod.mk.injEq] at h
      obtain ⟨rfl, rfl⟩ := h
      simp [e]
    · rw [if_neg e, mfind_shift] at h
      cases hq : mfind r x 0 with
      | none => rw [hq] at h; simp at h
      | some p =>
        obtain ⟨i', u2⟩ := p
        rw [hq] at h
        simp only [Option.map_some, Option.some.injEq, Prod.mk.injEq] at h
        obtain ⟨rfl, rfl⟩ := h
        simpa using ih hq

theorem mget_nil (x : α) : mget [] x = none := rfl
theorem mget_cons (y : α) (u : Value) (r : List (α × Value)) (x : α) : mget ((y, u) :: r) x = if x = y then some u else mget r x := by
  unfold mget
  simp only [mfind]
  by_cases e : x = y
  · simp [e]
  · rw [if_neg e, if_neg e, mfind_shift]
    cases mfind r x 0 <;> rfl
theorem mget_mset (m : List (α × Value)) (x : α) (v : Value) (y : α) : mget (mset m x v) y = if y = x then some v else mget m y := by
  induction m with
  | nil => simp only [mset, mget_cons, mget_nil]
  | cons a r ih =>
    obtain ⟨z, u⟩ := a
    simp only [mset]
    by_cases e : x = z
    · subst e
      rw [if_pos rfl, mget_cons, mget_cons]
      by_cases e2 : y = x
      · simp [e2]
      · simp [e2]
    · rw [if_neg e, mget_cons, mget_cons, ih]
      by_cases e2 : y = z
      · subst e2
        simp [show ¬ y = x from fun h => e h.symm]
      · simp [e2]
theorem length_mset (m : List (α × Value)) (x : α) (v : Value) : (mset m x v).length = if (mget m x).isSome then m.length else m.length + 1 := by
  induction m with
  | nil => rfl
  | cons a r ih =>
    obtain ⟨z, u⟩ := a
    simp only [mset, mget_cons]
    by_cases e : x = z
    · simp [e]
    · rw [if_neg e, if_neg e, List.length_cons, ih, List.length_cons]
      split <;> rfl

/-- No key twice. -/
def Once (m : List (α × Value)) : Prop := (m.map (·.1)).Nodup
theorem mget_mem {m : List (α × Value)} {x : α} (h : x ∈ m.map (·.1)) : ∃ v, mget m x = some v := by
  induction m with
  | nil => simp at h
  | cons a r ih =>
    obtain ⟨z, u⟩ := a
    rw [mget_cons]
    by_cases e : x = z
    · exact ⟨u, by rw [if_pos e]⟩
    · rw [if_neg e]
      exact ih (by simpa [e] using h)
theorem mget_notMem {m : List (α × Value)} {x : α} (h : mget m x = none) : x ∉ m.map (·.1) := fun hm => by
  obtain ⟨v, hv⟩ := mget_mem hm
  rw [h] at hv; cases hv
theorem mget_none_of {m : List (α × Value)} {x : α} (h : x ∉ m.map (·.1)) : mget m x = none := by
  induction m with
  | nil => rfl
  | cons a r ih =>
    obtain ⟨z, u⟩ := a
    simp only [List.map_cons, List.mem_cons, not_or] at h
    rw [mget_cons, if_neg h.1]
    exact ih h.2
theorem keys_mset (m : List (α × Value)) (x : α) (v : Value) : (mset m x v).map (·.1) = if (mget m x).isSome then m.map (·.1) else m.map (·.1) ++ [x] := by
  induction m with
  | nil => rfl
  | cons a r ih =>
    obtain ⟨z, u⟩ := a
    simp only [mset, mget_cons]
    by_cases e : x = z
    · simp [e]
    · rw [if_neg e, if_neg e, List.map_cons, ih, List.map_cons]
      split <;> rfl
theorem Once.mset {m : List (α × Value)} (h : Once m) (x : α) (v : Value) : Once (mset m x v) := by
  unfold Once at *
  rw [keys_mset]
  cases hg : mget m x with
  | some u => simpa using h
  | none =>
    simp only [Option.isSome_none, Bool.false_eq_true, if_false]
    rw [List.nodup_append]
    refine ⟨h, by simp, ?_⟩
    intro a ha b hb
    simp only [List.mem_singleton] at hb
    subst hb
    intro e
    subst e
    exact mget_notMem hg ha
omit [DecidableEq α] in
theorem Once.tail {a : α × Value} {r : List (α × Value)} (h : Once (a :: r)) : Once r ∧ a.1 ∉ r.map (·.1) := by
  unfold Once at *
  rw [List.map_cons, List.nodup_cons] at h
  exact ⟨h.2, h.1⟩
theorem mem_mdel {m : List (α × Value)} {x y : α} (h : y ∈ (mdel m x).map (·.1)) : y ∈ m.map (·.1) := by
  induction m with
  | nil => exact h
  | cons a r ih =>
    obtain ⟨z, u⟩ := a
    simp only [mdel] at h
    by_cases e : x = z
    · rw [if_pos e] at h; simp only [List.map_cons, List.mem_cons]; exact .inr h
    · rw [if_neg e] at h
      simp only [List.map_cons, List.mem_cons] at h ⊢
      exact h.imp_right ih
theorem Once.mdel {m : List (α × Value)} (h : Once m) (x : α) : Once (mdel m x) := by
  induction m with
  | nil => exact h
  | cons a r ih =>
    obtain ⟨z, u⟩ := a
    have ht := h.tail
    simp only [Ytdohkjpapmkhjaa.mdel]
    by_cases e : x = z
    · rw [if_pos e]; exact ht.1
    · rw [if_neg e]
      have := ih ht.1
      unfold Once at *
      rw [List.map_cons, List.nodup_cons]
      exact ⟨fun hm => ht.2 (mem_mdel hm), this⟩
theorem mget_mdel {m : List (α × Value)} (h : Once m) (x y : α) : mget (mdel m x) y = if y = x then none else mget m y := by
  induction m with
  | nil => simp [mdel, mget_nil]
  | cons a r ih =>
    obtain ⟨z, u⟩ := a
    have ht := h.tail
    simp only [mdel]
    by_cases e : x = z
    · subst e
      rw [if_pos rfl, mget_cons]
      by_cases e2 : y = x
      · subst e2; rw [if_pos rfl]; exact mget_none_of ht.2
      · rw [if_neg e2, if_neg e2]
    · rw [if_neg e, mget_cons, mget_cons, ih ht.1]
      by_cases e2 : y = z
      · subst e2
        rw [if_pos rfl, if_pos rfl, if_neg (fun q => e q.symm)]
      · rw [if_neg e2, if_neg e2]
theorem length_mdel {m : List (α × Value)} (x : α) : (mdel m x).length = if (mget m x).isSome then m.length - 1 else m.length := by
  induction m with
  | nil => rfl
  | cons a r ih =>
    obtain ⟨z, u⟩ := a
    simp only [mdel, mget_cons]
    by_cases e : x = z
    · simp [e]
    · rw [if_neg e, if_neg e, List.length_cons, ih, List.length_cons]
      split
      · rename_i hs
        have : 0 < r.length := by
          cases r with
          | nil => simp [mget_nil] at hs
          | cons => simp
        omega
      · rfl

/-- The keys of a type are values of one make, told apart by looking. -/
structure KeyKind (P : Program) (kt : TypeId) (f : α → Value) : Prop where
  same : ∃ d, P.underlying kt = some d ∧ ∀ a b, Instr.sameNow d (f a) (f b) = some (decide (a = b))
  check : ∀ (em : Bool) (a : α) (w : World), (Instr.checkKey em 10000 kt (f a)).run P w = .ok () w
  stay : ∀ a, Instr.sameBits 10000 (f a) (f a) = true

def pairOf (f : α → Value) (e : MapEntry) (x : α × Value) : Prop := e.key = f x.1 ∧ e.val = x.2
def MapOf (f : α → Value) (w : World) (b : Nat) (m : List (α × Value)) : Prop :=
  ∃ es clock, w.heap[b]? = some (.map es clock) ∧ es.toList.map (fun e => (e.key, e.val)) = m.map fun x => (f x.1, x.2)

variable {P : Program} {kt et t : TypeId} {f : α → Value} {w w' : World} {b : Nat} {m : List (α × Value)}

theorem findNow_eq {d : TypeDesc} (hs : ∀ a b, Instr.sameNow d (f a) (f b) = some (decide (a = b))) (x : α) :
    ∀ (l : List MapEntry) (m : List (α × Value)) (i : Nat), l.map (fun e => (e.key, e.val)) = m.map (fun x => (f x.1, x.2)) → Instr.findNow d (f x) l i = some (mfind m x i)
  | [], [], _, _ => rfl
  | [], _ :: _, _, h => by simp at h
  | _ :: _, [], _, h => by simp at h
  | e :: l, (y, u) :: m, i, h => by
    simp only [List.map_cons, List.cons.injEq, Prod.mk.injEq] at h
    obtain ⟨⟨h1, h2⟩, h3⟩ := h
    simp only [Instr.findNow, h1, hs, mfind]
    by_cases hx : x = y
    · simp [hx, h2]
    · simp only [hx, decide_false, if_false]
      exact findNow_eq hs x l m (i + 1) h3

theorem MapOf.find (h : MapOf f w b m) (K : KeyKind P kt f) (x : α) : ∃ es clock, w.heap[b]? = some (.map es clock) ∧ es.toList.map (fun e => (e.key, e.val)) = (m.map fun x => (f x.1, x.2)) ∧
    ∀ w', (Instr.findKey kt (f x) es.toList).run P w' = .ok (mfind m x 0) w' := by
  obtain ⟨es, clock, hb, hm⟩ := h
  obtain ⟨d, hd, hs⟩ := K.same
  refine ⟨es, clock, hb, hm, fun w' => ?_⟩
  simp [Instr.findKey, run_underlying hd, findNow_eq hs x es.toList m 0 hm, Result.andThen]

omit [DecidableEq α] in
theorem MapOf.upd {S : Nat → Prop} (h : MapOf f w b m) (u : Upd S w w') (hs : ¬ S b) : MapOf f w' b m := by
  obtain ⟨es, clock, hb, hm⟩ := h
  exact ⟨es, clock, u.heap hb hs, hm⟩
omit [DecidableEq α] in
theorem MapOf.same (h : MapOf f w b m) (u : Below w.heap.size w w') : MapOf f w' b m := h.upd (S := fun _ => False) (Upd.same u) id
omit [DecidableEq α] in
theorem MapOf.drewN (h : MapOf f w b m) (n : Nat) : MapOf f (w.drewN n) b m := h.upd (S := fun _ => False) (Upd.of_drewN n) id
omit [DecidableEq α] in
theorem MapOf.lt (h : MapOf f w b m) : b < w.heap.size := by
  obtain ⟨es, clock, hb, hm⟩ := h; exact lt_of_block hb
omit [DecidableEq α] in
theorem MapOf.made (w : World) (f : α → Value) : MapOf f (w.alloc (.map #[] 0)) w.heap.size [] := ⟨#[], 0, heap_alloc_new w _, rfl⟩

theorem run_lookup_map (h : MapOf f w b m) (K : KeyKind P kt f) (ht : P.underlying t = some (.map kt et)) {z : Value} (hz : (zeroValue et).run P w = .ok z w) (x : α) (ok : Bool) :
    (Instr.lookup t (.map (some b)) (f x) ok).run P w = .ok (if ok then .tuple #[(mget m x).getD z, .bool (mget m x).isSome] else (mget m x).getD z) w := by
  obtain ⟨es, clock, hb, _, hf⟩ := h.find K x
  unfold mget
  cases hq : mfind m x 0 with
  | none =>
    rw [hq] at hf
    cases ok <;> simp [Instr.lookup, run_underlying ht, MapKept.run_getObj_map hb, K.check, hf, hz, Result.andThen]
  | some p =>
    rw [hq] at hf
    cases ok <;> simp [Instr.lookup, run_underlying ht, MapKept.run_getObj_map hb, K.check, hf, Result.andThen]

theorem setBlock_upd (w : World) (b : Nat) (o : Obj) : Upd (fun k => k = b) w (ChangeMaps.setBlock w b o) :=
  ⟨rfl, rfl, rfl, by simp [ChangeMaps.setBlock], fun k _ hk => by simp [ChangeMaps.setBlock, show ¬ b = k from fun e => hk e.symm]⟩
theorem setBlock_heap {w : World} {b : Nat} {o : Obj} (h : b < w.heap.size) : (ChangeMaps.setBlock w b o).heap[b]? = some o := by
  simp [ChangeMaps.setBlock, h]

theorem run_update_map (h : MapOf f w b m) (K : KeyKind P kt f) (ht : P.underlying t = some (.map kt et)) (x : α) (v : Value) :
    ∃ w', (Instr.mapUpdate t (.map (some b)) (f x) v).run P w = .ok () w' ∧ MapOf f w' b (mset m x v) ∧ Upd (fun k => k = b) w w' := by
  obtain ⟨es, clock, hb, hm, hf⟩ := h.find K x
  have hlt := lt_of_block hb
  cases hq : mfind m x 0 with
  | none =>
    rw [hq] at hf
    refine ⟨ChangeMaps.setBlock w b (.map (es.push { key := f x, val := v, born := clock }) (clock + 1)), ?_, ⟨_, _, setBlock_heap hlt, ?_⟩, setBlock_upd _ _ _⟩
    · simp [Instr.mapUpdate, run_underlying ht, MapKept.run_getObj_map hb, K.check, hf, MapKept.run_setObj_map _ hb, Result.andThen, ChangeMaps.setBlock]
    · rw [(mfind_none hq v).1, List.map_append, ← hm]; simp
  | some p =>
    obtain ⟨j, u⟩ := p
    rw [hq] at hf
    obtain ⟨h1, h2, _⟩ := mfind_some hq v
    have hk : ∀ w', (Instr.keyThatStays (((es[j]?).map (·.key)).getD (f x)) (f x)).run P w' = .ok (f x) w' := by
      intro w'
      have hes : es.toList[j]?.map (fun e => (e.key, e.val)) = some (f x, u) := by
        have e1 := congrArg (fun l : List (Value × Value) => l[j]?) hm
        simp only [List.getElem?_map] at e1
        rw [e1]
        rw [mfind_at hq]; rfl
      have hkey : (es[j]?).map (·.key) = some (f x) := by
        rw [← Array.getElem?_toList]
        cases hj : es.toList[j]? with
        | none => rw [hj] at hes; simp at hes
        | some e =>
          rw [hj] at hes
          simp only [Option.map_some, Option.some.injEq, Prod.mk.injEq] at hes
          simp [hes.1]
      rw [hkey]
      simp [Instr.keyThatStays, K.stay]
    refine ⟨ChangeMaps.setBlock w b (.map (es.modify j fun e => { e with key := f x, val := v }) clock), ?_, ⟨_, _, setBlock_heap hlt, ?_⟩, setBlock_upd _ _ _⟩
    · simp [Instr.mapUpdate, run_underlying ht, MapKept.run_getObj_map hb, K.check, hf, hk, MapKept.run_setObj_map _ hb, Result.andThen, ChangeMaps.setBlock]
    · rw [h2, List.map_set, ← hm, Array.toList_modify]
      apply List.ext_getElem?
      intro i
      simp only [List.getElem?_map, List.getElem?_modify, List.getElem?_set, List.length_map, Array.length_toList]
      by_cases e : j = i
      · subst e
        have hjl : j < es.size := by
          have := congrArg List.length hm; simp at this; omega
        simp [hjl]
      · simp [e]

theorem run_delete_map (h : MapOf f w b m) (K : KeyKind P kt f) (ht : P.underlying t = some (.map kt et)) (x : α) (ty : TypeId) :
    ∃ w', (Builtin.delete_ #[t, kt] ty #[.map (some b), f x]).run P w = .ok (.tuple #[]) w' ∧ MapOf f w' b (mdel m x) ∧ Upd (fun k => k = b) w w' := by
  obtain ⟨es, clock, hb, hm, hf⟩ := h.find K x
  have hlt := lt_of_block hb
  cases hq : mfind m x 0 with
  | none =>
    rw [hq] at hf
    refine ⟨ChangeMaps.setBlock w b (.map es clock), ?_, ⟨_, _, setBlock_heap hlt, ?_⟩, setBlock_upd _ _ _⟩
    · simp [Builtin.delete_, run_underlying ht, MapKept.run_getObj_map hb, K.check, hf, MapKept.run_setObj_map _ hb, Result.andThen, ChangeMaps.setBlock]
    · rw [(mfind_none hq .nilFunc).2, hm]
  | some p =>
    obtain ⟨j, u⟩ := p
    rw [hq] at hf
    obtain ⟨h1, _, h3⟩ := mfind_some hq .nilFunc
    refine ⟨ChangeMaps.setBlock w b (.map (es.eraseIdxIfInBounds j) clock), ?_, ⟨_, _, setBlock_heap hlt, ?_⟩, setBlock_upd _ _ _⟩
    · simp [Builtin.delete_, run_underlying ht, MapKept.run_getObj_map hb, K.check, hf, MapKept.run_setObj_map _ hb, Result.andThen, ChangeMaps.setBlock]
    · rw [h3, Array.toList_eraseIdxIfInBounds, ChangeMaps.map_eraseIdx, ChangeMaps.map_eraseIdx, hm]

omit [DecidableEq α] in
theorem run_len_map (h : MapOf f w b m) (ht : P.underlying t = some (.map kt et)) (ty : TypeId) :
    (Builtin.len_ #[t] ty #[.map (some b)]).run P w = .ok (.int .i64 m.length) w := by
  obtain ⟨es, clock, hb, hm⟩ := h
  have : es.size = m.length := by have := congrArg List.length hm; simpa using this
  simp [Builtin.len_, run_underlying ht, MapKept.run_getObj_map hb, Result.andThen, goInt, this]

/-! ### at the operation -/
variable {ops : Array Oper} {rest : List Oper} {o : Oper} {a : Act} {Q : Exit → Act → World → Prop}
theorem wpList_lookup_map (hg : o.guard = none) (mo xo : Operand) (t : TypeId) (ok : Bool) (hop : o.op = Op.lookup t mo xo ok)
    (kt et : TypeId) (K : KeyKind P kt f) (ht : P.underlying t = some (.map kt et)) {z : Value} (hz : (zeroValue et).run P w = .ok z w) (b : Nat) (m : List (α × Value))
    (hm : a.eval mo = .map (some b)) (hown : MapOf f w b m) (x : α) (hx : a.eval xo = f x)
    (hK : wpList P ops Q rest (a.put o.dst (if ok then .tuple #[(mget m x).getD z, .bool (mget m x).isSome] else (mget m x).getD z)) w) :
    wpList P ops Q (o :: rest) a w := by
  refine wpList_plain hg fun K' hK' => ?_
  unfold Oper.wp
  simp [execOp, hop, hm, hx, run_lookup_map hown K ht hz x ok, Result.andThen]
  exact hK' _ _ hK
theorem wpList_update_map (hg : o.guard = none) (mo xo vo : Operand) (t : TypeId) (hop : o.op = Op.mapUpdate t mo xo vo)
    (kt et : TypeId) (K : KeyKind P kt f) (ht : P.underlying t = some (.map kt et)) (b : Nat) (m : List (α × Value))
    (hm : a.eval mo = .map (some b)) (hown : MapOf f w b m) (x : α) (v : Value) (hx : a.eval xo = f x) (hv : a.eval vo = v)
    (hK : ∀ w', MapOf f w' b (mset m x v) → Upd (fun k => k = b) w w' → wpList P ops Q rest (a.put o.dst undef) w') :
    wpList P ops Q (o :: rest) a w := by
  refine wpList_plain hg fun K' hK' => ?_
  obtain ⟨w', hr, h1, h2⟩ := run_update_map hown K ht x v
  unfold Oper.wp
  simp [execOp, hop, hm, hx, hv, hr, Result.andThen]
  exact hK' _ _ (hK w' h1 h2)
theorem wpList_delete_map (hg : o.guard = none) (mo xo : Operand) (t kt : TypeId) (hop : o.op = Op.call { callee := Callee.builtin Builtin.delete, args := #[mo, xo], argTypes := #[t, kt] })
    (et : TypeId) (K : KeyKind P kt f) (ht : P.underlying t = some (.map kt et)) (b : Nat) (m : List (α × Value))
    (hm : a.eval mo = .map (some b)) (hown : MapOf f w b m) (x : α) (hx : a.eval xo = f x)
    (hK : ∀ w', MapOf f w' b (mdel m x) → Upd (fun k => k = b) w w' → wpList P ops Q rest (a.put o.dst (.tuple #[])) w') :
    wpList P ops Q (o :: rest) a w := by
  refine wpList_plain hg fun K' hK' => ?_
  obtain ⟨w', hr, h1, h2⟩ := run_delete_map hown K ht x o.type
  unfold Oper.wp
  simp [execOp, hop, resolve, invoke, builtin, hm, hx, hr, Result.andThen]
  exact hK' _ _ (hK w' h1 h2)
omit [DecidableEq α] in
theorem wpList_len_map (hg : o.guard = none) (mo : Operand) (t : TypeId) (hop : o.op = Op.call { callee := Callee.builtin Builtin.len, args := #[mo], argTypes := #[t] })
    (kt et : TypeId) (ht : P.underlying t = some (.map kt et)) (b : Nat) (m : List (α × Value)) (hm : a.eval mo = .map (some b)) (hown : MapOf f w b m)
    (hK : wpList P ops Q rest (a.put o.dst (.int .i64 m.length)) w) :
    wpList P ops Q (o :: rest) a w := by
  refine wpList_plain hg fun K' hK' => ?_
  unfold Oper.wp
  simp [execOp, hop, resolve, invoke, builtin, hm, run_len_map hown ht o.type, Result.andThen]
  exact hK' _ _ hK
end

theorem keyKind_int {P : Program} {kt : TypeId} {k : IntKind} (h : P.underlying kt = some (.int k)) : KeyKind P kt (Value.int k) := by
  refine ⟨⟨_, h, fun a b => ?_⟩, fun em a w => ?_, fun a => ?_⟩
  · simp [Instr.sameNow, Bool.beq_eq_decide_eq]
  · unfold Instr.checkKey
    simp [run_underlying h]
  · simp [Instr.sameBits]
theorem keyKind_string {P : Program} {kt : TypeId} (h : P.underlying kt = some .string) : KeyKind P kt (fun s : ByteArray => Value.string s) := by
  refine ⟨⟨_, h, fun a b => ?_⟩, fun em a w => ?_, fun a => ?_⟩
  · simp only [Instr.sameNow, Option.some.injEq]
    by_cases e : a = b
    · simp [e, (MapKept.bytes_beq b b).2 rfl]
    · simp only [e, decide_false]
      cases hb : a == b with
      | false => rfl
      | true => exact absurd ((MapKept.bytes_beq a b).1 hb) e
  · unfold Instr.checkKey
    simp [run_underlying h]
  · simp only [Instr.sameBits]; exact (MapKept.bytes_beq a a).2 rfl
end Go.Proofs.Ytdohkjpapmkhjaa
