/- slices.Collect(maps.Values(m)) of a map of one snapshot at most; store.Horizon. · slices.AppendSeq, slices.Collect of snapshots, whatever iterator gives them. No conditions. -/
import Derived.RangeFuncGives
import Derived.Sort.MapsRangeIn
import Derived.WalkKit
import Derived.OwnWalkIn
import Derived.TacticsInMore
import Derived.RegionIn
import Derived.LoopNIn
import Derived.LoopIn
import Derived.Maps.RangeRun
import Derived.Maps.AppendAt
import Derived.Test.YtnkjnclpakfgnaaGreatDoorMb2
import Derived.Test.YtnkjnclpakfgnaaGreatDoorMa1
import Derived.Shelf.Abstract
namespace Go.Proofs.YtnkjnclpakfgnaaGreatDoor
open Go.RowKit Go.Maps
set_option maxRecDepth 100000

section
variable {F : Fence} {n : Nat} {P : Program} (w : World) {ops : Array Oper} {rest : List Oper} {o : Oper} {a : Act} {Q : Exit → Act → World → Prop}
theorem wpListIn_range_map (hg : o.guard = none) (m : Operand) (t : TypeId) (hop : o.op = Op.range t m) (k e : TypeId) (ht : P.underlying t = some (.map k e)) (b : Nat) (es : Array MapEntry) (ck : Nat)
    (hm : a.eval m = .map (some b)) (hb : w.heap[b]? = some (.map es ck))
    (hK : wpListIn F n P ops Q rest (a.put o.dst (.pointer (some ⟨w.heap.size, 0, none⟩))) (w.alloc (.mapIter (some b) ck #[] ck))) :
    wpListIn F n P ops Q (o :: rest) a w := by
  refine wpListIn_plain hg fun K' hK' => ?_
  unfold Oper.wpIn
  refine ⟨?_, ?_⟩
  · simp [Oper.about, hop]
  · rw [Oper.semAt_plain F _ _ (by rw [hop]; intro c hc'; cases hc')]
    simp [execOp, hop, hm, run_range_map w t k e b es ck ht hb, Result.andThen]
    exact hK' _ _ hK
theorem wpListIn_next_map (hg : o.guard = none) (it : Operand) (hop : o.op = Op.next it false) (r b since c0 : Nat) (seen : Array Nat) (es : Array MapEntry) (ck : Nat) (hit : a.eval it = .pointer (some ⟨r, 0, none⟩))
    (hr : w.heap[r]? = some (.mapIter (some b) since seen c0)) (hb : w.heap[b]? = some (.map es ck)) (hold : ∀ x ∈ es.toList, x.born < since) (hsc : since ≤ c0)
    (hDone : wpListIn F n P ops Q rest (a.put o.dst (.tuple #[.bool false])) w)
    (hMore : ∀ (e : MapEntry) (w1 : World), e ∈ (leftOf es seen).toList → (w1 = w ∨ w1 = w.drew) → wpListIn F n P ops Q rest (a.put o.dst (.tuple #[.bool true, e.key, e.val])) (ChangeMaps.setBlock w1 r (.mapIter (some b) since (seen.push e.born) ck))) :
    wpListIn F n P ops Q (o :: rest) a w := by
  refine wpListIn_plain hg fun K' hK' => ?_
  unfold Oper.wpIn
  refine ⟨by simp [Oper.about, hop], ?_⟩
  rw [Oper.semAt_plain F _ _ (by rw [hop]; intro c hc'; cases hc')]
  rcases run_next_at (P := P) w o.type r b since c0 seen es ck hr hb hold hsc with ⟨h0, hrun⟩ | ⟨e, he, w1, hal, hrun⟩
  · simp [execOp, hop, hit, hrun, Result.andThen]
    exact hK' _ _ hDone
  · simp [execOp, hop, hit, hrun, Result.andThen]
    exact hK' _ _ (hMore e w1 he hal)
end

set_option maxHeartbeats 1000000 in
theorem vals1_in (F : Fence) (n : Nat) (h220 : F.fn 220) (hro : F.round = none) (hn : 1 ≤ n) (l Bm b : Nat) (es : Array MapEntry) (ck : Nat) (a0 a1 a2 : Int) (J : List Unit → World → Prop)
    (hY : ∀ pre x W, J pre W → pre.length < es.size → YieldAt F (n - 1) Tryz.prog l #[.agg #[.int .u64 a0, .int .u64 a1, .int .u64 a2, .slice none 0 0]] W fun e W' => e = .returned (.bool true) ∧ J (pre ++ [x]) W' ∧ KeepsWalks W W')
    (W : World) (hJ : AbidesFrom W.heap.size J) (hm : W.cell? ⟨Bm, 0, none⟩ = some (.map (some b))) (hb : W.heap[b]? = some (.map es ck)) (hbn : Bn es ck) (hv : ∀ e ∈ es.toList, e.val = .agg #[.int .u64 a0, .int .u64 a1, .int .u64 a2, .slice none 0 0]) (h1 : es.size ≤ 1) (h0 : J [] W) :
    CallsIn F n Tryz.prog 220 #[.func (.yield l) #[] #[], .pointer (some ⟨Bm, 0, none⟩)] W fun e W' => (∃ v, e = .returned v) ∧ ∃ xs, J xs W' := by
  refine callsIn_of_wp Tryz.func220 rfl h220 ?_ hro
  simp only [Tryz.ntmps220, List.size_toArray, List.length_cons, List.length_nil, Nat.reduceAdd, Nat.reduceSub, Array.replicate_succ, Array.replicate_zero, List.push_toArray, List.append_toArray, List.nil_append, List.cons_append]
  have hbl := lt_of_block hb
  gi_wp2_with (first
    | (gi_at_range; refine wpListIn_range_map _ rfl _ 113 rfl 40 117 Tryz.underlying113 b es ck rfl hb ?_)
    | gi_in)
  have hr0 : (W.alloc (.mapIter (some b) ck #[] ck)).heap[W.heap.size]? = some (.mapIter (some b) ck #[] ck) := heap_new1 W _
  have hb0 : (W.alloc (.mapIter (some b) ck #[] ck)).heap[b]? = some (.map es ck) := block_alloc hb _
  have hJ0 : J [] (W.alloc (.mapIter (some b) ck #[] ck)) := hJ [] W _ none h0 (World.grownBy_alloc W _ none) (fun r e => by cases e)
  have hl0 : (leftOf es #[]).size ≤ es.size := by unfold leftOf; exact Array.size_filter_le
  have hne : b ≠ W.heap.size := Nat.ne_of_lt hbl
  go_frame
  gi_loopw [4] (fun _ wr => ∃ (seen : Array Nat) (pre : List Unit), wr.heap[W.heap.size]? = some (.mapIter (some b) ck seen ck) ∧ wr.heap[b]? = some (.map es ck) ∧ pre.length + (leftOf es seen).size ≤ es.size ∧ J pre wr)
    (fun _ wr => wr.rangeLeft b W.heap.size)
  case atStart => exact ⟨#[], [], hr0, hb0, by simpa using hl0, hJ0⟩
  case round =>
    obtain ⟨seen, pre, hr, hb1, hsz, hJs⟩ := hrel
    gi_wp2_with (first
      | (gi_at_next; refine wpListIn_next_map _ rfl _ rfl W.heap.size b ck ck seen es ck rfl hr hb1 hbn (Nat.le_refl _) ?_ ?_)
      | gi_in)
    · go_end0
      exact ⟨⟨_, rfl⟩, pre, hJs⟩
    · intro e w1 he hw1
      replace he := Array.mem_toList_iff.2 he
      obtain ⟨hem, hes⟩ := mem_left he
      have hev := hv e hem
      have hnd : (es.toList.map (·.born)).Nodup := by
        have : es.toList.length ≤ 1 := by simpa using h1
        match es.toList, this with
        | [], _ => exact List.nodup_nil
        | [x], _ => simp
      have hr1 : w1.heap[W.heap.size]? = some (.mapIter (some b) ck seen ck) := by rcases hw1 with rfl | rfl <;> exact hr
      have hb2 : w1.heap[b]? = some (.map es ck) := by rcases hw1 with rfl | rfl <;> exact hb1
      have hlr := lt_of_block hr1
      obtain ⟨w2, hw2⟩ : ∃ w2, w2 = ChangeMaps.setBlock w1 W.heap.size (.mapIter (some b) ck (seen.push e.born) ck) := ⟨_, rfl⟩
      rw [← hw2]
      have hr2 : w2.heap[W.heap.size]? = some (.mapIter (some b) ck (seen.push e.born) ck) := by rw [hw2]; exact setBlock_heap hlr
      have hu2 := setBlock_upd w1 W.heap.size (.mapIter (some b) ck (seen.push e.born) ck)
      rw [← hw2] at hu2
      have hb3 := hu2.heap hb2 hne
      have hen := run_entry_at (P := Tryz.prog) w2 W.heap.size b ck seen es ck e hr2 hb3 hem hnd
      rw [hev] at hen ⊢
      have hg : wr.grownBy w2 (some W.heap.size) := by
        have h1 : wr.grownBy w1 none := by rcases hw1 with rfl | rfl <;> exact ⟨rfl, rfl, rfl, Nat.le_refl _, fun _ _ _ => rfl⟩
        exact ⟨hu2.os.trans h1.os, hu2.tape.trans h1.tape, hu2.output.trans h1.output, Nat.le_trans h1.size hu2.size, fun i hi hne2 => (hu2.block i (Nat.lt_of_lt_of_le hi h1.size) (fun e => hne2 (by rw [e]))).trans (h1.block i hi (by simp))⟩
      have hJ2 : J pre w2 := hJ pre wr w2 (some W.heap.size) hJs hg (fun r e => by cases e; exact ⟨Nat.le_refl _, _, hr, rfl⟩)
      have hlt := left_shrinks es seen e he
      have hm0 : wr.rangeLeft b W.heap.size = (leftOf es seen).size := by simp only [World.rangeLeft, hr, hb1]
      obtain ⟨w3, hw3⟩ : ∃ w3, w3 = w2.alloc (.cells #[.int .u64 a0, .int .u64 a1, .int .u64 a2, .slice none 0 0] 117) := ⟨_, rfl⟩
      have hJ3 : J pre w3 := by rw [hw3]; exact hJ pre w2 _ none hJ2 (World.grownBy_alloc w2 _ none) (fun r e => by cases e)
      have hr3 : w3.heap[W.heap.size]? = some (.mapIter (some b) ck (seen.push e.born) ck) := by rw [hw3]; exact block_alloc hr2 _
      have hb4 : w3.heap[b]? = some (.map es ck) := by rw [hw3]; exact block_alloc hb3 _
      obtain ⟨fn, tmps, assign, body, hy, hR⟩ := hY pre () w3 hJ3 (by omega)
      have HR := Lib.hid hR
      rw [hw3] at hy
      clear hw2 hu2 hr1 hb2 hw1 hr hb1 hJs hR hr2 hb3 hJ2 hJ3
      gi_wp2
      rw [← hw3]
      refine HR.out.mono ?_
      rintro e' W3 ⟨rfl, hJ4, hk4⟩
      have hr4 := hk4.same _ _ hr3 rfl
      have hb5 := hk4.same _ _ hb4 rfl
      gi_wp2
      go_roundw
      case rel => exact ⟨seen.push e.born, pre ++ [()], hr4, hb5, by simp; omega, hJ4⟩
      case measure => rw [hm0]; simp only [World.rangeLeft, hr4, hb5]; exact hlt
end Go.Proofs.YtnkjnclpakfgnaaGreatDoor
namespace Go.Proofs.YtnkjnclpakfgnaaGreatDoor
open Go.RowKit Go.Maps Go.Shelf
set_option maxRecDepth 100000

theorem ownsRow_ne' {W : World} {base : Nat} {e : TypeId} {size : Nat} {v : Value} {k : Nat} {xs : List Value} (h : W.ownsRow base e size v k xs) {j : Nat} {o : Obj} (hj : W.heap[j]? = some o) (hno : ∀ cur, o ≠ .cells cur e (0, 0)) :
    v.ownBlock = none ∨ v.ownBlock ≠ some j := by
  rcases h.2 with ⟨rfl, _⟩ | ⟨g, cap, cur, rfl, _, hgb, _⟩
  · exact .inl rfl
  · refine .inr fun e' => ?_
    have : g = j := by simpa [Value.ownBlock] using e'
    subst this; rw [hgb] at hj; cases hj; exact hno cur rfl
theorem ownsRow_abides' {W W' : World} {row : Option Nat} {base : Nat} {e : TypeId} {size : Nat} {v : Value} {k : Nat} {xs : List Value} (h : W.ownsRow base e size v k xs) (hg : W.grownBy W' row)
    (hrow : ∀ r, row = some r → ∃ o : Obj, W.heap[r]? = some o ∧ o.isWalk = true) : W'.ownsRow base e size v k xs := by
  refine h.kept hg ?_
  rcases h.2 with ⟨rfl, _⟩ | ⟨g, cap, cur, rfl, _, hgb, _⟩
  · exact .inl rfl
  · refine .inr fun e' => ?_
    obtain ⟨o, ho, hw⟩ := hrow g (by simpa [Value.ownBlock] using e'.symm)
    rw [hgb] at ho; cases ho; cases hw
theorem grownBy_putObj' (W : World) (l : Nat) (o : Obj) : W.grownBy (W.putObj l o) (some l) :=
  ⟨rfl, rfl, rfl, by simp, fun k _ hk => World.putObj_heap_other (fun e => hk (by rw [e]))⟩
theorem grownBy_setCell0' (W : World) (b : Nat) (v : Value) : W.grownBy (W.setCell ⟨b, 0, none⟩ v) (some b) :=
  ⟨rfl, rfl, rfl, (KeepsWalks.setCell W _ v).size, fun k _ hk => Below.heap_setCell _ _ _ k (fun e => hk (by rw [e]))⟩
theorem cell_of_box' {W : World} {B : Nat} {v : Value} {t : TypeId} (h : W.heap[B]? = some (.cells #[v] t (0, 0))) : W.cell? ⟨B, 0, none⟩ = some v ∧ W.frozen? ⟨B, 0, none⟩ = false := by
  constructor <;> simp [World.cell?, World.frozen?, h]
theorem heap_setCell_box' {W : World} {B : Nat} {v : Value} {t : TypeId} (v' : Value) (h : W.heap[B]? = some (.cells #[v] t (0, 0))) : (W.setCell ⟨B, 0, none⟩ v').heap[B]? = some (.cells #[v'] t (0, 0)) := by
  obtain ⟨hlt, hk⟩ := Array.getElem?_eq_some_iff.1 h
  show (W.heap.modify B _)[B]? = _
  rw [Array.getElem?_eq_getElem (by rw [Array.size_modify]; exact hlt), Array.getElem_modify_self, hk]
  rfl
theorem ownsRow_not_walk' {W : World} {base : Nat} {e : TypeId} {size : Nat} {v : Value} {k : Nat} {xs : List Value} (h : W.ownsRow base e size v k xs) : ∀ (j : Nat) (o : Obj), v.ownBlock = some j → W.heap[j]? = some o → o.isWalk = false := by
  intro j o hj ho
  rcases h.2 with ⟨rfl, _⟩ | ⟨g, cap, cur, rfl, _, hgb, _⟩
  · simp [Value.ownBlock] at hj
  · have : g = j := by simpa [Value.ownBlock] using hj
    subst this; rw [hgb] at ho; cases ho; rfl

/-- The first range over a function value: what it assigns, its round. -/
def rangeIn : Code → Option (Code × Code)
  | .rangeFunc _ _ a b => some (a, b)
  | .seq x y => match rangeIn x with
    | some r => some r
    | none => rangeIn y
  | .block _ c => rangeIn c
  | .scope c => rangeIn c
  | .loop c => rangeIn c
  | _ => none
noncomputable def apAssign : Code := ((Tryz.f219.body.bind rangeIn).map (fun x => x.1)).getD .skip
noncomputable def apBody : Code := ((Tryz.f219.body.bind rangeIn).map (fun x => x.2)).getD .skip
noncomputable def apRec (fn : FuncId) (sv : Value) (Bs D : Nat) (st : LoopState) (pend : Option Code) : Loop :=
  { state := st, pending := pend, fn, tmps := #[.slice none 0 0, sv, .pointer (some ⟨Bs, 0, none⟩), undef, .slice none 0 0, undef, sv, undef, undef, undef, undef, undef, undef], params := #[7], assign := apAssign, body := apBody, defers := D }
/-- So many times the same. -/
def rowS (a0 a1 a2 : Int) (ss : List Unit) : List Value := ss.flatMap fun _ => [Value.int .u64 a0, .int .u64 a1, .int .u64 a2, .slice none 0 0]
theorem rowS_snoc (a0 a1 a2 : Int) (ss : List Unit) (x : Unit) : rowS a0 a1 a2 (ss ++ [x]) = rowS a0 a1 a2 ss ++ [Value.int .u64 a0, .int .u64 a1, .int .u64 a2, .slice none 0 0] := by simp [rowS]
structure ApAt (a0 a1 a2 : Int) (w0 : World) (fn : FuncId) (sv : Value) (Bs l D : Nat) (ss : List Unit) (W : World) : Prop where
  box : ∃ v, W.heap[Bs]? = some (.cells #[v] 300 (0, 0)) ∧ W.ownsRow w0.heap.size 117 4 v ss.length (rowS a0 a1 a2 ss)
  L : W.heap[l]? = some (.loop (apRec fn sv Bs D .ready none))
  K : W.heap[D]? = some (.deferred (some []))
  below : Below w0.heap.size w0 W
  len : ss.length ≤ 1000
theorem ap_abides (a0 a1 a2 : Int) (w0 : World) (fn : FuncId) (sv : Value) (Bs l D B : Nat) (hB : w0.heap.size ≤ B) : AbidesFrom B (ApAt a0 a1 a2 w0 fn sv Bs l D) := fun s W W' row h hg hrow => by
  have hrow' : ∀ r, row = some r → ∃ o : Obj, W.heap[r]? = some o ∧ o.isWalk = true := fun r e => (hrow r e).2
  obtain ⟨v, hv, hr⟩ := h.box
  exact ⟨⟨v, (grownBy_keeps hg hrow' hv rfl).trans hv, ownsRow_abides' hr hg hrow'⟩, (grownBy_keeps hg hrow' h.L rfl).trans h.L, (grownBy_keeps hg hrow' h.K rfl).trans h.K,
    h.below.grown hg h.below.size (fun k e => Nat.le_trans hB (hrow k e).1), h.len⟩
theorem info117 : (Tryz.prog.info? 117).map (fun i => (i.zero, i.size, i.bytes)) = some (some (.agg #[.int .u64 0, .int .u64 0, .int .u64 0, .slice none 0 0]), 4, 48) := by kernel_rfl
set_option maxHeartbeats 2000000 in
theorem apYield (F : Fence) (m : Nat) (a0 a1 a2 : Int) (w0 : World) (fn : FuncId) (hfn : F.fn fn) (sv : Value) (Bs l D : Nat) (hBl : Bs ≠ l) (hDl : D ≠ l) (hDB : D ≠ Bs) (h0B : w0.heap.size ≤ Bs) (h0l : w0.heap.size ≤ l)
    (N : Nat) (hN : N ≤ 1000) (ss : List Unit) (x : Unit) (W : World) (h : ApAt a0 a1 a2 w0 fn sv Bs l D ss W) (hlen : ss.length < N) :
    YieldAt F m Tryz.prog l #[.agg #[.int .u64 a0, .int .u64 a1, .int .u64 a2, .slice none 0 0]] W fun e W' => e = .returned (.bool true) ∧ ApAt a0 a1 a2 w0 fn sv Bs l D (ss ++ [x]) W' ∧ KeepsWalks W W' := by
  obtain ⟨i0, hi, hz0, hz1, hz2⟩ := info_parts info117
  obtain ⟨v, hv, hrow⟩ := h.box
  refine ⟨fn, #[.slice none 0 0, sv, .pointer (some ⟨Bs, 0, none⟩), undef, .slice none 0 0, undef, sv, .agg #[.int .u64 a0, .int .u64 a1, .int .u64 a2, .slice none 0 0], undef, undef, undef, undef, undef], apAssign, apBody, by simpa [apRec] using run_yield (P := Tryz.prog) (args := #[.agg #[.int .u64 a0, .int .u64 a1, .int .u64 a2, .slice none 0 0]]) h.L rfl, roundIn_of_wpIn hfn ?_⟩
  have hal : Below W.heap.size W (W.alloc (.cells #[.int .u64 a0, .int .u64 a1, .int .u64 a2, .slice none 0 0] 117)) := (Below.refl _ _).alloc (Nat.le_refl _) _
  have hx1 : (W.alloc (.cells #[.int .u64 a0, .int .u64 a1, .int .u64 a2, .slice none 0 0] 117)).heap[W.heap.size]? = some (.cells #[.int .u64 a0, .int .u64 a1, .int .u64 a2, .slice none 0 0] 117 (0, 0)) := heap_new1 W _
  have hk1 : KeepsWalks W (W.alloc (.cells #[.int .u64 a0, .int .u64 a1, .int .u64 a2, .slice none 0 0] 117)) := KeepsWalks.alloc _ _
  have hg1 : W.grownBy (W.alloc (.cells #[.int .u64 a0, .int .u64 a1, .int .u64 a2, .slice none 0 0] 117)) none := World.grownBy_alloc W _ none
  obtain ⟨W1, hW1⟩ : ∃ W1, W1 = W.alloc (.cells #[.int .u64 a0, .int .u64 a1, .int .u64 a2, .slice none 0 0] 117) := ⟨_, rfl⟩
  rw [← hW1] at hal hx1 hk1 hg1
  have hL1 := (Upd.same (S := fun _ => False) hal).heap h.L id
  have hv1 := (Upd.same (S := fun _ => False) hal).heap hv id
  have hK1 := (Upd.same (S := fun _ => False) hal).heap h.K id
  have hrow1 : W1.ownsRow w0.heap.size 117 4 v ss.length (rowS a0 a1 a2 ss) := ownsRow_upd (S := fun _ => False) hrow (Upd.same hal) (fun _ _ => id)
  have hb1 : Below w0.heap.size w0 W1 := h.below.trans (hal.mono h.below.size)
  have hl : l < W1.heap.size := lt_of_block hL1
  have hxl : W.heap.size ≠ l := fun e => by rw [← e] at hL1; rw [hx1] at hL1; cases hL1
  have hxB : W.heap.size ≠ Bs := fun e => by have := lt_of_block hv; omega
  have hbr := run_beginRound (P := Tryz.prog) hL1 rfl
  obtain ⟨W2, hW2⟩ : ∃ W2, W1.putObj l (.loop { apRec fn sv Bs D .ready none with state := .busy }) = W2 := ⟨_, rfl⟩
  rw [hW2, hW1] at hbr
  have hg2 : W1.grownBy W2 (some l) := by rw [← hW2]; exact grownBy_putObj' _ _ _
  have hk2 : KeepsWalks W1 W2 := by rw [← hW2]; exact KeepsWalks.putObj _ hL1 rfl
  have hv2 : W2.heap[Bs]? = some (.cells #[v] 300 (0, 0)) := by rw [← hW2]; exact (World.putObj_heap_other hBl).trans hv1
  have hK2 : W2.heap[D]? = some (.deferred (some [])) := by rw [← hW2]; exact (World.putObj_heap_other hDl).trans hK1
  have hx2 : W2.heap[W.heap.size]? = some (.cells #[.int .u64 a0, .int .u64 a1, .int .u64 a2, .slice none 0 0] 117 (0, 0)) := by rw [← hW2]; exact (World.putObj_heap_other hxl).trans hx1
  have hL2 : W2.heap[l]? = some (.loop { apRec fn sv Bs D .ready none with state := .busy }) := by rw [← hW2]; exact World.putObj_heap_same hl
  have hrow2 : W2.ownsRow w0.heap.size 117 4 v ss.length (rowS a0 a1 a2 ss) := hrow1.kept hg2 (ownsRow_ne' hrow1 hL1 (fun cur e => by cases e))
  have hb2 : Below w0.heap.size w0 W2 := hb1.grown hg2 hb1.size (fun k e => by cases e; exact h0l)
  have hkk : KeepsWalks W W2 := hk1.trans hk2
  obtain ⟨hc2, hf2⟩ := cell_of_box' hv2
  have z0 := cell_of_block hx2 (i := 0) rfl
  have z1 := cell_of_block hx2 (i := 1) rfl
  have z2 := cell_of_block hx2 (i := 2) rfl
  have z3 := cell_of_block hx2 (i := 3) rfl
  clear hW2
  conv =>
    pattern apAssign
    whnf
  gi_wp2_with (rw [Oper.semAt_eq _ _ _ (fun c h => by cases h)]; go_simp; try go_bits)
  conv =>
    pattern apBody
    whnf
  have hBlt : Bs < W2.heap.size := lt_of_block hv2
  have hl2 : l < W2.heap.size := lt_of_block hL2
  have hDlt : D < W2.heap.size := lt_of_block hK2
  have ne_of : ∀ {j : Nat} {o : Obj}, W2.heap[j]? = some o → (∀ cur, o ≠ .cells cur 117 (0, 0)) → some j ≠ v.ownBlock := fun hj hno => by
    rcases ownsRow_ne' hrow2 hj hno with e | e
    · rw [e]; simp
    · exact fun e' => e e'.symm
  gi_wp2_with (first
    | (gi_at_builtin
       refine wpListIn_append_own _ rfl _ _ 300 rfl w0.heap.size 117 i0 (.agg #[.int .u64 0, .int .u64 0, .int .u64 0, .slice none 0 0]) 4 48 Tryz.underlying300 hi hz0 hz1 hz2 rfl (by decide) _ _ _ rfl (hrow2.alloc _) ⟨W2.heap.size, 0, none⟩ 1 1 [.int .u64 a0, .int .u64 a1, .int .u64 a2, .slice none 0 0] rfl rfl ?_ ?_ (by unfold maxLen; omega) (by omega) (by have := hb2.size; simp; omega) ?_
       · intro j u hj
         rw [show ((⟨W2.heap.size, 0, none⟩ : Addr).add j) = ⟨W2.heap.size, j, none⟩ by simp [Addr.add]; intro e; exact e.symm]
         exact cell_of_block (heap_new1 W2 _) (i := j) (by rw [List.getElem?_toArray]; simpa using hj)
       · intro u hu; simp at hu; rcases hu with rfl | rfl | rfl | rfl <;> rfl
       intro v' w3 hown' hg3 hnil3
       have hv3 : w3.heap[Bs]? = some (.cells #[v] 300 (0, 0)) := (hg3.block Bs (by simp; omega) (ne_of hv2 (fun cur e => by cases e))).trans ((Below.heap_alloc _ _ Bs hBlt).trans hv2)
       obtain ⟨hc3, hf3⟩ := cell_of_box' hv3
       obtain ⟨g', cap', cur', rfl, hbase', hgb', hr1, hr2, hr3, hr4⟩ : ∃ g' cap' cur', v' = .slice (some ⟨g', 0, none⟩) (ss.length + 1) cap' ∧ w0.heap.size ≤ g' ∧ w3.heap[g']? = some (.cells cur' 117 (0, 0)) ∧ ss.length + 1 ≤ cap' ∧ cap' ≤ maxLen ∧ cur'.size = cap' * 4 ∧ cur'.toList.take ((ss.length + 1) * 4) = rowS a0 a1 a2 ss ++ [.int .u64 a0, .int .u64 a1, .int .u64 a2, .slice none 0 0] := by
         rcases hown'.2 with ⟨_, h0⟩ | h'
         · exact absurd h0 (by omega)
         · exact h'
       go_frame)
    | (rw [Oper.semAt_eq _ _ _ (fun c h => by cases h)]; go_simp; try go_bits))
  have hg3' : (W2.alloc (.cells #[.int .u64 a0, .int .u64 a1, .int .u64 a2, .slice none 0 0] 117)).grownBy w3 v.ownBlock := hg3
  have hL3 : w3.heap[l]? = some (.loop { apRec fn sv Bs D .ready none with state := .busy }) := (hg3'.block l (by simp; omega) (ne_of hL2 (fun cur e => by cases e))).trans ((Below.heap_alloc _ _ l hl2).trans hL2)
  have hK3 : w3.heap[D]? = some (.deferred (some [])) := (hg3'.block D (by simp; omega) (ne_of hK2 (fun cur e => by cases e))).trans ((Below.heap_alloc _ _ D hDlt).trans hK2)
  obtain ⟨w4, hw4⟩ : ∃ w4, w3.setCell ⟨Bs, 0, none⟩ (.slice (some ⟨g', 0, none⟩) (ss.length + 1) cap') = w4 := ⟨_, rfl⟩
  rw [hw4]
  have hg4 : w3.grownBy w4 (some Bs) := by rw [← hw4]; exact grownBy_setCell0' _ _ _
  have hv4 : w4.heap[Bs]? = some (.cells #[.slice (some ⟨g', 0, none⟩) (ss.length + 1) cap'] 300 (0, 0)) := by rw [← hw4]; exact heap_setCell_box' _ hv3
  have hL4 : w4.heap[l]? = some (.loop { apRec fn sv Bs D .ready none with state := .busy }) := (hg4.block l (lt_of_block hL3) (fun e => hBl (by cases e; rfl))).trans hL3
  have hK4 : w4.heap[D]? = some (.deferred (some [])) := (hg4.block D (lt_of_block hK3) (fun e => hDB (by cases e; rfl))).trans hK3
  have hrow4 := hown'.kept hg4 (ownsRow_ne' hown' hv3 (fun cur e => by cases e))
  have hl4 : l < w4.heap.size := lt_of_block hL4
  have hb3 : Below w0.heap.size w0 w3 := (hb2.alloc hb2.size _).grown hg3' (by have := hb2.size; simp; omega) (fun k e => (hrow2.lt k e).1)
  have hb4 : Below w0.heap.size w0 w4 := hb3.grown hg4 hb3.size (fun k e => by cases e; exact h0B)
  have hk4 : KeepsWalks W w4 := ((hkk.trans (KeepsWalks.alloc _ _)).trans (KeepsWalks.of_grownBy hg3' (ownsRow_not_walk' (hrow2.alloc _)))).trans (by rw [← hw4]; exact KeepsWalks.setCell _ _ _)
  clear hw4
  refine ⟨_, _, run_endRound none hL4, rfl, ⟨⟨_, (World.putObj_heap_other hBl).trans hv4, ?_⟩, World.putObj_heap_same hl4, (World.putObj_heap_other hDl).trans hK4, hb4.grown (grownBy_putObj' _ _ _) hb4.size (fun k e => by cases e; exact h0l), by simp; omega⟩, hk4.trans (KeepsWalks.putObj _ hL4 rfl)⟩
  have := hrow4.kept (grownBy_putObj' w4 l (.loop { { apRec fn sv Bs D .ready none with state := .busy } with state := if (none : Option Code).isNone then .ready else .done, pending := none })) (ownsRow_ne' hrow4 hL4 (fun cur e => by cases e))
  rw [rowS_snoc]
  simpa using this

set_option maxHeartbeats 2000000 in
theorem appendSeq_in (F : Fence) (n : Nat) (h219 : F.fn 219) (hro : F.round = none) (hn : 2 ≤ n) (a0 a1 a2 : Int) (g : Nat) (lb : Array Value) (hFg : F.fn g) (eg : ∀ args w, (callFunc g args).run Tryz.prog w = .ok (.enter g args) w)
    (N : Nat) (hN : N ≤ 1000) (w : World) (hseq : SeqGives F (n - 1) Tryz.prog g lb (fun _ : Unit => .agg #[.int .u64 a0, .int .u64 a1, .int .u64 a2, .slice none 0 0]) (fun _ => True) N w) :
    CallsIn F n Tryz.prog 219 #[.slice none 0 0, .func (.func g) #[] lb] w fun e w' => ∃ (v : Value) (ss : List Unit), e = .returned v ∧ w'.ownsRow w.heap.size 117 4 v ss.length (rowS a0 a1 a2 ss) ∧ ss.length ≤ 1000 ∧ Below w.heap.size w w' := by
  have h1 : 1 ≤ n := by omega
  refine callsIn_of_wp_marks Tryz.func219 rfl h219 ?_ hro
  simp only [Tryz.ntmps219, List.size_toArray, List.length_cons, List.length_nil, Nat.reduceAdd, Nat.reduceSub, Array.replicate_succ, Array.replicate_zero, List.push_toArray, List.append_toArray, List.nil_append, List.cons_append]
  gi_wp2
  refine wpIn_rangeFunc ?_
  intro fn hfn
  rw [hro]
  obtain ⟨W0, hW0⟩ : ∃ W0, w.alloc (.cells #[.slice none 0 0] 300) = W0 := ⟨_, rfl⟩
  have hs0 : W0.heap.size = w.heap.size + 1 := by rw [← hW0]; simp
  have hv0 : W0.heap[w.heap.size]? = some (.cells #[.slice none 0 0] 300 (0, 0)) := by rw [← hW0]; exact World.alloc_heap_new w _
  have hb0 : Below w.heap.size w W0 := by rw [← hW0]; exact (Below.refl _ w).alloc (Nat.le_refl _) _
  rw [hW0]
  obtain ⟨W1, hW1⟩ : ∃ W1, (W0.alloc (.deferred (some []))).alloc (.loop (apRec fn (.func (.func g) #[] lb) w.heap.size W0.heap.size .ready none)) = W1 := ⟨_, rfl⟩
  have hold : ∀ k, k < W0.heap.size → W1.heap[k]? = W0.heap[k]? := fun k hk => by
    rw [← hW1]; exact (Below.heap_alloc _ _ k (by simp; omega)).trans (Below.heap_alloc _ _ k hk)
  have hb1 : Below w.heap.size w W1 := by rw [← hW1]; exact (hb0.alloc hb0.size _).alloc (by have := hb0.size; simp; omega) _
  have hs1 : W1.heap.size = W0.heap.size + 2 := by rw [← hW1]; simp
  have hM : ApAt a0 a1 a2 w fn (.func (.func g) #[] lb) w.heap.size (W0.heap.size + 1) W0.heap.size [] W1 :=
    ⟨⟨_, (hold w.heap.size (by omega)).trans hv0, ⟨rfl, .inl ⟨rfl, rfl⟩⟩⟩,
     by rw [← hW1]; have := World.alloc_heap_new (W0.alloc (.deferred (some []))) (.loop (apRec fn (.func (.func g) #[] lb) w.heap.size W0.heap.size .ready none)); rwa [World.size_alloc] at this,
     by rw [← hW1]; exact (Below.heap_alloc _ _ _ (by simp)).trans (World.alloc_heap_new W0 _), hb1, by simp⟩
  refine ⟨W0.heap.size + 1, [{ target := .collected W0.heap.size, args := #[] }], W1, { target := .fn (.func g) lb, args := #[.func (.yield (W0.heap.size + 1)) #[] #[]] }, W1, g,
    #[.func (.yield (W0.heap.size + 1)) #[] #[]] ++ lb, W1, ?_, ?_, ?_, ?_, fun _ => h1, ?_⟩
  · rw [← hW1]; exact run_enterLoop_outer _ _ _ _ _
  · simp [resolve, go_sem]
  · intro f' hf'; simp [Target.leads] at hf'; subst hf'; exact hFg
  · simp [invoke, go_sem, eg]
  · refine (hseq (W0.heap.size + 1) (ApAt a0 a1 a2 w fn (.func (.func g) #[] lb) w.heap.size (W0.heap.size + 1) W0.heap.size) W1 hb1 (ap_abides _ _ _ _ _ _ _ _ _ _ hb1.size)
      (fun pre x W hJ hl => apYield F (n - 1 - 1) a0 a1 a2 w fn hfn _ w.heap.size (W0.heap.size + 1) W0.heap.size (by omega) (by omega) (by omega) (Nat.le_refl _) (by omega) N hN pre x W hJ hl) hM).mono ?_
    rintro e W2 ⟨⟨v0, rfl⟩, ss, _, h2⟩
    obtain ⟨v, hv, hrow⟩ := h2.box
    have hend := run_endLoop (P := Tryz.prog) h2.L (by simp [apRec])
    obtain ⟨W3, hW3⟩ : ∃ W3, W2.putObj (W0.heap.size + 1) (.loop { apRec fn (.func (.func g) #[] lb) w.heap.size W0.heap.size .ready none with state := .exhausted }) = W3 := ⟨_, rfl⟩
    rw [hW3] at hend
    have hg3 : W2.grownBy W3 (some (W0.heap.size + 1)) := by rw [← hW3]; exact grownBy_putObj' _ _ _
    have hv3 : W3.heap[w.heap.size]? = some (.cells #[v] 300 (0, 0)) := by rw [← hW3]; exact (World.putObj_heap_other (by omega)).trans hv
    have hK3 : W3.heap[W0.heap.size]? = some (.deferred (some [])) := by rw [← hW3]; exact (World.putObj_heap_other (by omega)).trans h2.K
    have hrow3 := hrow.kept hg3 (ownsRow_ne' hrow h2.L (fun cur e => by cases e))
    have hb3 : Below w.heap.size w W3 := h2.below.grown hg3 h2.below.size (fun k e => by cases e; omega)
    obtain ⟨hc3, hf3⟩ := cell_of_box' hv3
    clear hW3
    refine ⟨none, W3, hend, ?_⟩
    gi_wp2
    rw [← hs0]
    refine ⟨by simp, .inl ⟨_, _, rfl, run_takeDeferred hK3, ?_⟩⟩
    exact ⟨_, results_tmp rfl _ _ _, v, ss, rfl, hrow3.kept (grownBy_putObj' _ _ _) (ownsRow_ne' hrow3 hK3 (fun cur e => by cases e)), h2.len, hb3.grown (grownBy_putObj' _ _ _) hb3.size (fun k e => by cases e; omega)⟩

set_option maxHeartbeats 1000000 in
theorem collect_in (F : Fence) (n : Nat) (h142 : F.fn 142) (h219 : F.fn 219) (hro : F.round = none) (hn : 3 ≤ n) (a0 a1 a2 : Int) (g : Nat) (lb : Array Value) (hFg : F.fn g) (eg : ∀ args w, (callFunc g args).run Tryz.prog w = .ok (.enter g args) w)
    (N : Nat) (hN : N ≤ 1000) (w : World) (hseq : SeqGives F (n - 1 - 1) Tryz.prog g lb (fun _ : Unit => .agg #[.int .u64 a0, .int .u64 a1, .int .u64 a2, .slice none 0 0]) (fun _ => True) N w) :
    CallsIn F n Tryz.prog 142 #[.func (.func g) #[] lb] w fun e w' => ∃ (v : Value) (ss : List Unit), e = .returned v ∧ w'.ownsRow w.heap.size 117 4 v ss.length (rowS a0 a1 a2 ss) ∧ ss.length ≤ 1000 ∧ Below w.heap.size w w' := by
  have h1 : 1 ≤ n := by omega
  refine callsIn_of_wp Tryz.func142 rfl h142 ?_ hro
  simp only [Tryz.ntmps142, List.size_toArray, List.length_cons, List.length_nil, Nat.reduceAdd, Nat.reduceSub, Array.replicate_succ, Array.replicate_zero, List.push_toArray, List.append_toArray, List.nil_append, List.cons_append]
  gi_wp2_with (gi_at_call 219; refine (appendSeq_in F (n - 1) h219 hro (by omega) a0 a1 a2 g lb hFg eg N hN _ hseq).mono ?_; rintro e w' ⟨v, ss, rfl, hrow, hlen, hb⟩)
  go_ret
  exact ⟨v, ss, rfl, hrow, hlen, hb⟩

theorem mval_in (F : Fence) (n : Nat) (h143 : F.fn 143) (hro : F.round = none) (b : Nat) (w : World) :
    CallsIn F n Tryz.prog 143 #[.map (some b)] w fun e w' => e = .returned (.func (.func 220) #[] #[.pointer (some ⟨w.heap.size, 0, none⟩)]) ∧ w' = w.alloc (.cells #[.map (some b)] 113) := by
  refine callsIn_of_wp Tryz.func143 rfl h143 ?_ hro
  simp only [Tryz.ntmps143, List.size_toArray, List.length_cons, List.length_nil, Nat.reduceAdd, Nat.reduceSub, Array.replicate_succ, Array.replicate_zero, List.push_toArray, List.append_toArray, List.nil_append, List.cons_append]
  gi_wp2
  go_ret
  exact ⟨rfl, rfl⟩

theorem mvals_at (b : Nat) (w : World) :
    Calls Tryz.prog 143 #[.map (some b)] w fun e w' => e = .returned (.func (.func 220) #[] #[.pointer (some ⟨w.heap.size, 0, none⟩)]) ∧ w' = w.alloc (.cells #[.map (some b)] 113) :=
  callsIn_wide.1 (mval_in Fence.wide 1 trivial rfl b w)
theorem collect_at (a0 a1 a2 : Int) (Bm b : Nat) (es : Array MapEntry) (ck : Nat) (w : World) (hm : w.heap[Bm]? = some (.cells #[.map (some b)] 113 (0, 0))) (hb : w.heap[b]? = some (.map es ck)) (hbn : Bn es ck)
    (hv : ∀ e ∈ es.toList, e.val = .agg #[.int .u64 a0, .int .u64 a1, .int .u64 a2, .slice none 0 0]) (h1 : es.size ≤ 1) :
    Calls Tryz.prog 142 #[.func (.func 220) #[] #[.pointer (some ⟨Bm, 0, none⟩)]] w fun e w' => ∃ (v : Value) (ss : List Unit), e = .returned v ∧ w'.ownsRow w.heap.size 117 4 v ss.length (rowS a0 a1 a2 ss) ∧ ss.length ≤ 1000 ∧ Below w.heap.size w w' :=
  callsIn_wide.1 (collect_in Fence.wide 5 trivial trivial rfl (by decide) a0 a1 a2 220 _ trivial (enters_of Tryz.func220 (by kernel_rfl) rfl) es.size (by omega) w (fun l J W hW hJ hY h0 => by
    have hBm : W.heap[Bm]? = some (.cells #[.map (some b)] 113 (0, 0)) := (Upd.same (S := fun _ => False) hW).heap hm id
    have hbW : W.heap[b]? = some (.map es ck) := (Upd.same (S := fun _ => False) hW).heap hb id
    refine (vals1_in Fence.wide _ trivial rfl (by decide) l Bm b es ck a0 a1 a2 J hY W hJ (cell_of_block hBm rfl) hbW hbn hv h1 h0).mono ?_
    rintro e w' ⟨h, xs, hx⟩
    exact ⟨h, xs, trivial, hx⟩))

theorem least_same (x : Int) : ∀ l : List Int, (∀ y ∈ l, y = x) → least x l = x
  | [], _ => rfl
  | y :: l, h => by
    have hy : y = x := h y (.head _)
    subst hy
    show l.foldl _ y = y
    have : ∀ l : List Int, (∀ z ∈ l, z = y) → l.foldl (fun a z => if z < a then z else a) y = y := fun l => by
      induction l with
      | nil => intro _; rfl
      | cons z l ih =>
        intro h
        have hz : z = y := h z (.head _)
        subst hz
        rw [List.foldl_cons, if_neg (by omega)]
        exact ih (fun q hq => h q (.tail _ hq))
    exact this l (fun z hz => h z (.tail _ hz))

set_option maxHeartbeats 1000000 in
theorem horizon94 {c : Nat → Nat} {k p : Nat} {w : World} {f : Int} {L : List Nat} (h : LogAt c k w p f L) {sb t b : Nat} {cs : Array Value} (hs : w.heap[sb]? = some (.cells cs t (0, 0))) (h0 : cs[0]? = some (.pointer (some ⟨p, 0, none⟩))) (h5 : cs[5]? = some (.map (some b)))
    {es : Array MapEntry} {ck : Nat} (hb : w.heap[b]? = some (.map es ck)) (hbn : Bn es ck) {a0 a1 a2 : Int} (hv : ∀ e ∈ es.toList, e.val = .agg #[.int .u64 a0, .int .u64 a1, .int .u64 a2, .slice none 0 0]) (h1 : es.size ≤ 1) (ha : a1 = f + L.length) :
    Calls Tryz.prog 94 #[.pointer (some ⟨sb, 0, none⟩)] w fun e w' => e = .returned (.int .u64 (f + L.length)) ∧ Below w.heap.size w w' := by
  have k0 : w.cell? ⟨sb, 0, none⟩ = some (.pointer (some ⟨p, 0, none⟩)) := cell_of_block hs h0
  have k5 : w.cell? ⟨sb, 5, none⟩ = some (.map (some b)) := cell_of_block hs h5
  have hH : ∀ (w' : World) (w1 : World) (v : Value) (ss : List Unit), Below w.heap.size w w1 → w.heap.size ≤ w1.heap.size → w'.ownsRow w1.heap.size 117 4 v ss.length (rowS a0 a1 a2 ss) → ss.length ≤ 1000 → Below w1.heap.size w1 w' →
      Calls Tryz.prog 141 #[.pointer (some ⟨p, 0, none⟩), v] w' fun e w2 => e = .returned (.int .u64 (f + L.length)) ∧ Below w'.heap.size w' w2 := fun w' w1 v ss b1 hz hr hlen b2 => by
    have hb := b1.trans (b2.mono hz)
    have hl := (h.recol (c' := fun q => if q < w.heap.size then c q else k + 1) (fun q hq => if_pos hq)).same hb
    have hn : Snaps (fun q => if q < w.heap.size then c q else k + 1) (k + 1) w' v (ss.map fun _ => ((⟨a0, a1, a2, []⟩ : Snp), Value.slice none 0 0)) := by
      refine ⟨?_, fun g hg => ?_, fun x hx => ?_, ?_⟩
      · have e1 : (ss.map fun _ => ((⟨a0, a1, a2, []⟩ : Snp), Value.slice none 0 0)).flatMap snapCells = rowS a0 a1 a2 ss := by
          rw [List.flatMap_map]; rfl
        rw [e1, List.length_map]
        refine ⟨hr.1, ?_⟩
        rcases hr.2 with hn | ⟨g, cap, cur, q1, _, rest⟩
        · exact .inl hn
        · exact .inr ⟨g, cap, cur, q1, Nat.zero_le _, rest⟩
      · have := (World.ownsRow.lt hr g hg).1
        simp; omega
      · obtain ⟨_, _, rfl⟩ := List.mem_map.1 hx
        exact ⟨⟨World.ownsRow_nil _ _ _ _, by simp⟩, fun g hg => by simp [Value.ownBlock] at hg⟩
      · simp; omega
    refine (horizon_at hl hn).mono ?_
    rintro e w2 ⟨rfl, q⟩
    refine ⟨?_, q⟩
    rw [least_same]
    simp [ha]
  have K0 := Lib.hid k0; have K5 := Lib.hid k5; have HH := Lib.hid hH; have HB := Lib.hid hb; have HBN := Lib.hid hbn; have HV := Lib.hid hv
  have R : Below w.heap.size w w.drew := ⟨rfl, rfl, rfl, Nat.le_refl _, fun _ _ => rfl⟩
  clear hH hb hbn hv h hs h0 h5 k0 k5
  go_enter Tryz.func94, Tryz.ntmps94
  go_wp2_with fail
  go_region_held3 (fun z => z.cell? ⟨sb, 0, none⟩ = some (.pointer (some ⟨p, 0, none⟩)) ∧ z.cell? ⟨sb, 5, none⟩ = some (.map (some b)))
    (first | (with_reducible exact ⟨keeper b3 K0.out, keeper b3 K5.out⟩) | (with_reducible exact ⟨keeper b2 K0.out, keeper b2 K5.out⟩) | (with_reducible exact ⟨keeper b1 K0.out, keeper b1 K5.out⟩) | (with_reducible exact ⟨keeper R K0.out, keeper R K5.out⟩))
    (first
      | (go_at_call 143; (with_reducible refine (mvals_at b _).mono ?_); rintro r wa ⟨rfl, hwa⟩; have b1 : Below w.heap.size w wa := (by rw [hwa]; exact R.alloc (Nat.le_refl _) _); have hbm : wa.heap[w.heap.size]? = some (.cells #[.map (some b)] 113 (0, 0)) := (by rw [hwa]; exact heap_new1 w.drew _); clear hwa)
      | (go_at_call 142; (with_reducible refine (collect_at a0 a1 a2 w.heap.size b es ck _ hbm ((Upd.same (S := fun _ => False) b1).heap HB.out id) HBN.out HV.out h1).mono ?_); rintro r wb ⟨v, ss, rfl, hrow, hlen, bb⟩; have b2 : Below w.heap.size w wb := b1.trans (bb.mono b1.size))
      | (go_at_call 141; (with_reducible refine (HH.out _ _ _ _ b1 b1.size hrow hlen bb).mono ?_); rintro r wc ⟨rfl, bc⟩; have b3 : Below w.heap.size w wc := b2.trans (bc.mono b2.size)))
  go_wp2_with fail
  go_ret
  exact ⟨rfl, b3⟩
end Go.Proofs.YtnkjnclpakfgnaaGreatDoor
