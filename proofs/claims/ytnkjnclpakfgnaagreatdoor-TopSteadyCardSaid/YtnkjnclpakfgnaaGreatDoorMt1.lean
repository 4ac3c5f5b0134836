/- Package tree: entries. · Package tree: the halving, a node's leaf, least, below; copyOf. · Package tree: leaf, least, copyOf, slices.Clone. · Package tree: copyOf. · copy and rows of cells. · slices.Insert over entries. · slices.Insert over entries: a new row. · slices.Insert over entries: the roads together. No conditions. -/
import Derived.Test.YtnkjnclpakfgnaaGreatDoorMb6
import Derived.Laws.Externs
import Derived.Laws.IdiomCopy
import Derived.Shelf.Spec.SlicesInsertGrow
namespace Go.Proofs.YtnkjnclpakfgnaaGreatDoor
open Go.RowKit
set_option maxRecDepth 100000

theorem nan_at (x : Int) (w : World) : Calls Tryz.prog 400 #[.int .i64 x] w fun e w' => e = .returned (.bool false) ∧ w' = w := by
 have d : (x != x) = false := by simp
 go_enter Tryz.func400, Tryz.ntmps400
 go_wp2_with fail
 go_ret
 exact ⟨rfl, rfl⟩
section
variable {w w' : World} {d e : Value} {l m : List Nat}
end
theorem flpE {P : Program} {f : Nat} {a : Array Value} {w : World} {R : Ending → Prop} (h : Calls P f a w fun e w' => R e ∧ w' = w) : Calls P f a w fun e w' => R e ∧ w = w' := h.mono fun _ _ ⟨a, b⟩ => ⟨a, b.symm⟩
/-- An entry: a key of some bytes, a place. -/
def entT (d : Value) (pg sl : Int) : Value := .agg #[d, .int .i64 pg, .int .i64 sl]
end Go.Proofs.YtnkjnclpakfgnaaGreatDoor
namespace Go.Proofs.YtnkjnclpakfgnaaGreatDoor
open Go.RowKit
set_option maxRecDepth 100000
/-- Entries: keys and places. -/
abbrev Ent3 := Value × Int × Int
section
variable {w w' : World} {lv d : Value} {es : List Ent3} {l : List Nat}
end
end Go.Proofs.YtnkjnclpakfgnaaGreatDoor
namespace Go.Proofs.YtnkjnclpakfgnaaGreatDoor
open Go.RowKit
set_option maxRecDepth 100000
theorem Tryz.info145 : (Tryz.prog.info? 145).map (fun i => (i.zero, i.size, i.bytes)) = some (some (.agg #[.slice none 0 0, .int .i64 0, .int .i64 0]), 3, 40) := by kernel_rfl
theorem Tryz.info213 : (Tryz.prog.info? 213).map (fun i => (i.zero, i.size, i.bytes)) = some (some (.pointer none), 1, 8) := by kernel_rfl
def set3 (w : World) (b : Nat) (v0 v1 v2 : Value) : World := ((w.setCell ⟨b, 0, none⟩ v0).setCell ⟨b, 1, none⟩ v1).setCell ⟨b, 2, none⟩ v2
theorem set3_heap {w : World} {b T : Nat} {z0 z1 z2 : Value} (h : w.heap[b]? = some (.cells #[z0, z1, z2] T (0, 0))) (v0 v1 v2 : Value) : (set3 w b v0 v1 v2).heap[b]? = some (.cells #[v0, v1, v2] T (0, 0)) := by
 unfold set3; rw [block_setCell (block_setCell (block_setCell h v0) v1) v2]; rfl
theorem set3_upd {S : Nat → Prop} {w0 w : World} {b : Nat} (u : Upd S w0 w) (hb : b < w0.heap.size → S b) (v0 v1 v2 : Value) : Upd S w0 (set3 w b v0 v1 v2) :=
 ((u.setCell (a := ⟨b, 0, none⟩) v0 hb).setCell (a := ⟨b, 1, none⟩) v1 hb).setCell (a := ⟨b, 2, none⟩) v2 hb
section
variable {w w' : World} {lv kv d : Value} {es : List Ent3} {l : List Nat} {b : Nat} {a : Addr} {cs : List Value} {n cap : Nat}
end
end Go.Proofs.YtnkjnclpakfgnaaGreatDoor
namespace Go.Proofs.YtnkjnclpakfgnaaGreatDoor
open Go.RowKit
set_option maxRecDepth 100000
section
variable {w w' : World} {d : Value} {l : List Nat}
set_option maxHeartbeats 2000000 in
theorem copy_at (hd : Bs w d l) (hl : l.length ≤ 600) (p s : Int) : Calls Tryz.prog 133 #[entT d p s] w fun r w' => ∃ v, r = .returned (entT v p s) ∧ Bs w' v l ∧ Below w.heap.size w w' ∧ ∀ g, v.ownBlock = some g → w.heap.size ≤ g := by
 obtain ⟨wz, hwz⟩ : ∃ wz, wz = (w.alloc (.cells #[d, .int .i64 p, .int .i64 s] 145)).alloc (.cells #[.slice none 0 0, .int .i64 0, .int .i64 0] 145) := ⟨_, rfl⟩
 obtain ⟨t, ht⟩ : ∃ t, t = w.heap.size := ⟨_, rfl⟩
 have hal : Below w.heap.size w wz := by subst hwz; exact ((Below.refl _ _).alloc (Nat.le_refl _) _).alloc (by simp) _
 have hT0 : wz.heap[t]? = some (.cells #[d, .int .i64 p, .int .i64 s] 145 (0, 0)) := by subst hwz; subst ht; exact block_alloc (heap_new1 w _) _
 have hT1 : wz.heap[t + 1]? = some (.cells #[.slice none 0 0, .int .i64 0, .int .i64 0] 145 (0, 0)) := by
  subst hwz; subst ht
  have := heap_new1 (w.alloc (.cells #[d, .int .i64 p, .int .i64 s] 145)) (.cells #[.slice none 0 0, .int .i64 0, .int .i64 0] 145)
  simpa using this
 have k0 : wz.drew.cell? ⟨t, 0, none⟩ = some d := cell_of_block hT0 rfl
 have k1 : wz.drew.cell? ⟨t, 1, none⟩ = some (.int .i64 p) := cell_of_block hT0 rfl
 have k2 : wz.drew.cell? ⟨t, 2, none⟩ = some (.int .i64 s) := cell_of_block hT0 rfl
 have hb := bclone_at (w := wz.drew) ((Bs.same hd hal).drewN 1) (by omega)
 have HB := Lib.hid hb; have HT := Lib.hid ht; have HWZ := Lib.hid hwz; have HAL := Lib.hid hal; have HT1 := Lib.hid hT1
 have hu : ∀ (w : World) v0 v1 v2, Upd (fun b => b = t + 1) w (set3 w (t + 1) v0 v1 v2) := fun w v0 v1 v2 => set3_upd (Upd.refl (fun b => b = t + 1) w) (b := t + 1) (fun _ => rfl) v0 v1 v2
 have HU := Lib.hid hu
 unfold entT
 clear hu hd ht hwz hal hT0 hb hT1
 go_enter Tryz.func133, Tryz.ntmps133
 go_wp2_with fail
 rw [← HWZ.out, ← HT.out]
 go_region_held3 (fun z => z.cell? ⟨t, 0, none⟩ = some d ∧ z.cell? ⟨t, 1, none⟩ = some (.int .i64 p) ∧ z.cell? ⟨t, 2, none⟩ = some (.int .i64 s)) (first | (with_reducible exact ⟨k0, k1, k2⟩) | exact ⟨keeper hk1 k0, keeper hk1 k1, keeper hk1 k2⟩ | exact ⟨(HU.out wb _ _ _).cell (keeper hk1 k0) (by simp), (HU.out wb _ _ _).cell (keeper hk1 k1) (by simp), (HU.out wb _ _ _).cell (keeper hk1 k2) (by simp)⟩)
  (first | (go_at_call 208; (with_reducible refine HB.out.mono ?_); rintro r wb ⟨v, rfl, x1, x2, x3, hk1⟩; have hz := (Upd.same (S := fun _ => False) hk1).heap HT1.out id; obtain ⟨_, _, vb, vo, vc, rfl, _, _⟩ := id x1; have z0 := cell_of_block hz (i := 0) rfl; have z1 := cell_of_block hz (i := 1) rfl; have z2 := cell_of_block hz (i := 2) rfl; have f0 : wb.frozen? ⟨t + 1, 0, none⟩ = false := free_of_block hz; have f1 : wb.frozen? ⟨t + 1, 1, none⟩ = false := free_of_block hz; have f2 : wb.frozen? ⟨t + 1, 2, none⟩ = false := free_of_block hz))
 have hS := set3_heap ((Upd.same (S := fun _ => False) hk1).heap HT1.out id) (.slice (some ⟨vb, vo, none⟩) l.length vc) (.int .i64 p) (.int .i64 s)
 have hu3 := HU.out wb (.slice (some ⟨vb, vo, none⟩) l.length vc) (.int .i64 p) (.int .i64 s)
 have hbs := x1.upd hu3 (fun b o n c e => by
  cases e
  intro e2
  have := x2 vb rfl
  have := lt_of_block HT1.out
  have e3 : wz.drew.heap.size = wz.heap.size := rfl
  omega)
 have hbel : Below w.heap.size w (set3 wb (t + 1) (.slice (some ⟨vb, vo, none⟩) l.length vc) (.int .i64 p) (.int .i64 s)) :=
  (HAL.out.trans (below_drew hk1 |>.mono HAL.out.size)).trans (hu3.below (B := w.heap.size) (by have := HAL.out.size; have := hk1.size; have e3 : wz.drew.heap.size = wz.heap.size := rfl; omega) (fun b hb e => by have := HT.out; omega))
 have hnb : w.heap.size ≤ vb := by have := x2 vb rfl; have := HAL.out.size; have e3 : wz.drew.heap.size = wz.heap.size := rfl; omega
 have j0 := cell_of_block hS (i := 0) rfl
 have j1 := cell_of_block hS (i := 1) rfl
 have j2 := cell_of_block hS (i := 2) rfl
 change Exit.then _ _ _ _ (set3 wb (t + 1) (.slice (some ⟨vb, vo, none⟩) l.length vc) (.int .i64 p) (.int .i64 s))
 clear hu3 x1 x2 x3 hk1
 generalize set3 wb (t + 1) (.slice (some ⟨vb, vo, none⟩) l.length vc) (.int .i64 p) (.int .i64 s) = w6 at *
 go_wp2_with fail
 exact bodyPost_ret (v := .agg #[.slice (some ⟨vb, vo, none⟩) l.length vc, .int .i64 p, .int .i64 s]) (by simp [results, Tryz.results133, go_sem, j0, j1, j2]) rfl ⟨_, rfl, hbs, hbel, fun g hg => by cases hg; exact hnb⟩
end
end Go.Proofs.YtnkjnclpakfgnaaGreatDoor
namespace Go.Proofs.YtnkjnclpakfgnaaGreatDoor
open Go.RowKit
set_option maxRecDepth 100000
theorem run_copy_K {P : Program} (w : World) (dT sT ty elem : TypeId) (b o dLen dCap : Nat) (a : Addr) (sLen sCap k : Nat) (cs : List Value)
    (hu : P.underlying dT = some (.slice elem)) (hs : (P.info? elem).map (·.size) = some k) (hn : cs.length = Nat.min sLen dLen * k)
    (hsrc : ∀ (j : Nat) v, cs[j]? = some v → w.cell? (a.add j) = some v) (hc : ∀ j, j < cs.length → (w.cell? ⟨b, o + j, none⟩).isSome = true) (hf : ∀ j, j < cs.length → w.frozen? ⟨b, o + j, none⟩ = false) (h1 : ∀ v ∈ cs, v.oneCell' = true) :
    (Builtin.copy_ #[dT, sT] ty #[.slice (some ⟨b, o, none⟩) dLen dCap, .slice (some a) sLen sCap]).run P w = .ok (goInt (Nat.min sLen dLen)) (w.setCells b o cs) := by
  have hl := run_loadCells_list (P := P) w a cs hsrc
  have hst := run_storeCells_cells (P := P) b o cs 0 w (by simpa using hc) (by simpa using hf) h1
  cases hq : P.info? elem with
  | none => simp [hq] at hs
  | some i =>
    have hi : i.size = k := by simpa [hq] using hs
    simp [Builtin.copy_, run_underlying hu, Builtin.lenOf, Builtin.firstCells, sizeOf, typeInfo, hq, hi, ← hn, hl, hst]

/-- The cells o .. of an array, laid anew. -/
def setL : Array Value → Nat → List Value → Array Value
 | cur, _, [] => cur
 | cur, o, v :: r => setL (cur.setIfInBounds o v) (o + 1) r
theorem setL_size : ∀ (vs : List Value) (cur : Array Value) (o : Nat), (setL cur o vs).size = cur.size
 | [], _, _ => rfl
 | v :: r, cur, o => by rw [setL, setL_size r]; simp
theorem setL_get : ∀ (vs : List Value) (cur : Array Value) (o i : Nat), o + vs.length ≤ cur.size → (setL cur o vs)[i]? = if o ≤ i ∧ i < o + vs.length then vs[i - o]? else cur[i]?
 | [], cur, o, i, h => by rw [setL, if_neg (by simp only [List.length_nil]; omega)]
 | v :: r, cur, o, i, h => by
  simp only [List.length_cons] at h
  rw [setL, setL_get r _ _ i (by simp; omega)]
  simp only [List.length_cons]
  by_cases h1 : o + 1 ≤ i ∧ i < o + 1 + r.length
  · rw [if_pos h1, if_pos (by omega), show i - o = (i - (o + 1)) + 1 by omega, List.getElem?_cons_succ]
  · rw [if_neg h1]
    by_cases h2 : i = o
    · subst h2
      rw [if_pos (by omega), Nat.sub_self, List.getElem?_cons_zero, Array.getElem?_setIfInBounds_self_of_lt (by omega)]
    · rw [if_neg (by omega), Array.getElem?_setIfInBounds_ne (by omega)]
theorem block_setCells {g : Nat} {t : TypeId} {fz : Nat × Nat} : ∀ (vs : List Value) (o : Nat) (w : World) (cs : Array Value), w.heap[g]? = some (.cells cs t fz) → (w.setCells g o vs).heap[g]? = some (.cells (setL cs o vs) t fz)
 | [], _, _, _, h => h
 | v :: r, o, _w, _cs, h => block_setCells r (o + 1) _ _ (block_setCell h v)
theorem upd_setCells {S : Nat → Prop} {w0 : World} {g : Nat} (hg : g < w0.heap.size → S g) : ∀ (vs : List Value) (o : Nat) (w : World), Upd S w0 w → Upd S w0 (w.setCells g o vs)
 | [], _, _, h => h
 | v :: r, o, _w, h => upd_setCells hg r (o + 1) _ (h.setCell (a := ⟨g, o, none⟩) v hg)
theorem ins_take {cur : Array Value} {xs ys : List Value} {A N K : Nat} (hx : xs.length = N) (hy : ys.length = K) (hA : A ≤ N) (_hs : N + K ≤ cur.size)
  (h1 : ∀ j, j < A → cur[j]? = xs[j]?) (h2 : ∀ j, j < K → cur[A + j]? = ys[j]?) (h3 : ∀ j, A ≤ j → j < N → cur[j + K]? = xs[j]?) : cur.toList.take (N + K) = xs.take A ++ ys ++ xs.drop A := by
 apply List.ext_getElem?
 intro j
 rw [List.getElem?_take]
 by_cases hj : j < N + K
 · rw [if_pos hj, Array.getElem?_toList]
   by_cases a : j < A
   · rw [h1 j a, List.getElem?_append_left (by simp; omega), List.getElem?_append_left (by simp; omega), List.getElem?_take, if_pos a]
   · by_cases b : j < A + K
     · have := h2 (j - A) (by omega)
       rw [show A + (j - A) = j by omega] at this
       rw [this, List.getElem?_append_left (by simp; omega), List.getElem?_append_right (by simp; omega)]
       simp only [List.length_take]
       rw [show j - min A xs.length = j - A by omega]
     · have := h3 (j - K) (by omega) (by omega)
       rw [show j - K + K = j by omega] at this
       rw [this, List.getElem?_append_right (by simp; omega), List.getElem?_drop]
       simp only [List.length_append, List.length_take]
       congr 1; omega
 · rw [if_neg hj, List.getElem?_eq_none (by simp; omega)]
/-- An element put in between, in place. -/
theorem shift_take {cur : Array Value} {xs ys : List Value} {A N K : Nat} (ht : cur.toList.take N = xs) (hx : xs.length = N) (hy : ys.length = K) (hA : A ≤ N) (hs : N + K ≤ cur.size) :
  (setL (setL cur (A + K) (xs.drop A)) A ys).toList.take (N + K) = xs.take A ++ ys ++ xs.drop A := by
 have hd : (xs.drop A).length = N - A := by simp; omega
 have hg : ∀ i, (setL (setL cur (A + K) (xs.drop A)) A ys)[i]? = if A ≤ i ∧ i < A + K then ys[i - A]? else if A + K ≤ i ∧ i < N + K then xs[i - K]? else cur[i]? := fun i => by
  rw [setL_get _ _ _ _ (by rw [setL_size]; omega), setL_get _ _ _ _ (by omega), hy, hd]
  by_cases a : A ≤ i ∧ i < A + K
  · rw [if_pos a, if_pos a]
  · rw [if_neg a, if_neg a]
    by_cases b : A + K ≤ i ∧ i < N + K
    · rw [if_pos b, if_pos (by omega), List.getElem?_drop]; congr 1; omega
    · rw [if_neg b, if_neg (by omega)]
 refine ins_take hx hy hA (by rw [setL_size, setL_size]; exact hs) (fun j hj => ?_) (fun j hj => ?_) (fun j h1 h2 => ?_)
 · rw [hg, if_neg (by omega), if_neg (by omega), ← ht, List.getElem?_take, if_pos (by omega), Array.getElem?_toList]
 · rw [hg, if_pos (by omega)]; congr 1; omega
 · rw [hg, if_neg (by omega), if_pos (by omega)]; congr 1; omega
/-- .. and in a new row. -/
theorem grow_take {cur : Array Value} {xs ys : List Value} {A N K : Nat} (ht : ∀ j, j < A → cur[j]? = xs[j]?) (hx : xs.length = N) (hy : ys.length = K) (hA : A ≤ N) (hs : N + K ≤ cur.size) :
  (setL (setL cur A ys) (A + K) (xs.drop A)).toList.take (N + K) = xs.take A ++ ys ++ xs.drop A := by
 have hd : (xs.drop A).length = N - A := by simp; omega
 have hg : ∀ i, (setL (setL cur A ys) (A + K) (xs.drop A))[i]? = if A + K ≤ i ∧ i < N + K then xs[i - K]? else if A ≤ i ∧ i < A + K then ys[i - A]? else cur[i]? := fun i => by
  rw [setL_get _ _ _ _ (by rw [setL_size]; omega), setL_get _ _ _ _ (by omega), hy, hd]
  by_cases b : A + K ≤ i ∧ i < N + K
  · rw [if_pos b, if_pos (by omega), List.getElem?_drop]; congr 1; omega
  · rw [if_neg b, if_neg (by omega)]
 refine ins_take hx hy hA (by rw [setL_size, setL_size]; exact hs) (fun j hj => ?_) (fun j hj => ?_) (fun j h1 h2 => ?_)
 · rw [hg, if_neg (by omega), if_neg (by omega), ht j hj]
 · rw [hg, if_neg (by omega), if_pos (by omega)]; congr 1; omega
 · rw [hg, if_pos (by omega)]; congr 1; omega
end Go.Proofs.YtnkjnclpakfgnaaGreatDoor
namespace Go.Proofs.YtnkjnclpakfgnaaGreatDoor
open Go.RowKit
set_option maxRecDepth 100000
theorem size145 : (Tryz.prog.info? 145).map (·.size) = some 3 := by kernel_rfl
theorem sizeOf145 (w : World) : (Go.sizeOf 145).run Tryz.prog w = .ok 3 w := by kernel_rfl
theorem shape_of_block {w : World} {b : Nat} {cs : Array Value} {T : TypeId} {fz : Nat × Nat} (h : w.heap[b]? = some (.cells cs T fz)) : w.shape? b = some (T, cs.size) := by
 simp [World.shape?, h]
section
variable {w w' : World} {lv kv d : Value} {b vb n c i vc : Nat} {xs ys : List Value} {cur : Array Value}
theorem eoverlaps {vcs cur : Array Value} (hv : w.heap[vb]? = some (.cells vcs 145 (0, 0))) (hb : w.heap[b]? = some (.cells cur 145 (0, 0))) (hne : vb ≠ b) (hc : cur.size ≠ 0) (o la lb ca cb : Nat) :
  (callFunc 362 #[.slice (some ⟨vb, 0, none⟩) la ca, .slice (some ⟨b, o, none⟩) lb cb]).run Tryz.prog w = .ok (.value (.bool false)) w := by
 rw [run_callFunc_extern (fn := Tryz.f362) (e := Extern.SlicesOverlaps.overlaps #[141, 141] #[4]) Tryz.func362 (by kernel_rfl) (by kernel_rfl) (by kernel_rfl) (by kernel_rfl),
  Lib.run_overlaps_apart w 141 4 145 Tryz.underlying141 3 sizeOf145 ⟨vb, 0, none⟩ ⟨b, o, none⟩ la ca lb cb hne 145 145 vcs.size cur.size (shape_of_block hv) (shape_of_block hb) hc (free_of_block hv) (free_of_block hv)]
 rfl
set_option maxHeartbeats 4000000 in
theorem einsert_shift (hb : w.heap[b]? = some (.cells cur 145 (0, 0))) (hc : cur.size = c * 3) (hroom : n + 1 ≤ c) (hc63 : c ≤ maxLen) (hx : cur.toList.take (n * 3) = xs) (hi : i < n) (hv : w.heap[vb]? = some (.cells ys.toArray 145 (0, 0))) (hy : ys.length = 3) (hne : vb ≠ b) (h1c : ∀ v ∈ xs, v.oneCell' = true) (h1v : ∀ v ∈ ys, v.oneCell' = true) :
    Calls Tryz.prog 324 #[.slice (some ⟨b, 0, none⟩) n c, .int .i64 (i : Int), .slice (some ⟨vb, 0, none⟩) 1 vc] w fun e w' => e = .returned (.slice (some ⟨b, 0, none⟩) (n + 1) c) ∧ w' = (w.drew.setCells b ((i + 1) * 3) (xs.drop (i * 3))).setCells b (i * 3) ys := by
 have hov : ∀ o la lb ca cb, (callFunc 362 #[.slice (some ⟨vb, 0, none⟩) la ca, .slice (some ⟨b, o, none⟩) lb cb]).run Tryz.prog w = .ok (.value (.bool false)) w := fun o la lb ca cb => eoverlaps hv hb hne (by omega) o la lb ca cb
 have HOV := Lib.hid hov
 have hi1 : IntKind.i64.wrap ((i : Int) + 1) = (i : Int) + 1 := IntWalk.i64_in _ (by unfold maxLen at hc63; omega)
 have hn1 : IntKind.i64.wrap ((n : Int) + 1) = (n : Int) + 1 := IntWalk.i64_in _ (by unfold maxLen at hc63; omega)
 have e1 : ¬ (i : Int) = n := by omega
 have e2 : ¬ (c : Int) < (n : Int) + 1 := by omega
 have e3 : (i : Int) ≤ n := by omega
 have e4 : (0 : Int) ≤ (i : Int) + 1 := by omega
 have e5 : (i : Int) + 1 ≤ (n : Int) + 1 := by omega
 have e6 : (n : Int) + 1 ≤ c := by omega
 have e7 : ¬ c = i := by omega
 have e8 : ¬ c = i + 1 := by omega
 have e9 : ((i : Int) + 1).toNat = i + 1 := by omega
 have e10 : ((n : Int) + 1).toNat = n + 1 := by omega
 have e11 : (i : Int) ≤ (n : Int) + 1 := by omega
 have e12 : (0 : Int) ≤ (n : Int) + 1 := by omega
 have hxl : xs.length = n * 3 := by rw [← hx]; simp [hc]; omega
 have hdl : (xs.drop (i * 3)).length = (n - i) * 3 := by rw [List.length_drop, hxl]; omega
 have hget : ∀ (j : Nat) v, xs[j]? = some v → cur[j]? = some v := fun j v hj => by
  rw [← hx, List.getElem?_take] at hj
  split at hj
  · simpa using hj
  · cases hj
 have hcp1 : ∀ ty dc sc, (Builtin.copy_ #[141, 141] ty #[.slice (some ⟨b, (i + 1) * 3, none⟩) (n - i) dc, .slice (some ⟨b, i * 3, none⟩) (n + 1 - i) sc]).run Tryz.prog w.drew = .ok (goInt (Nat.min (n + 1 - i) (n - i))) (w.drew.setCells b ((i + 1) * 3) (xs.drop (i * 3))) := fun ty dc sc =>
  run_copy_K w.drew 141 141 ty 145 b ((i + 1) * 3) (n - i) dc ⟨b, i * 3, none⟩ (n + 1 - i) sc 3 (xs.drop (i * 3)) Tryz.underlying141 size145 (by rw [hdl, show Nat.min (n + 1 - i) (n - i) = n - i from by simp only [Nat.min_def]; split <;> omega])
   (fun j v hj => by
    rw [add_atn]
    rw [List.getElem?_drop] at hj
    exact cell_of_block hb (hget _ _ hj))
   (fun j hj => by
    have hlt : (i + 1) * 3 + j < cur.size := by omega
    show (w.cell? ⟨b, (i + 1) * 3 + j, none⟩).isSome = true
    rw [cell_of_block hb (Array.getElem?_eq_getElem hlt)]; rfl)
   (fun j hj => free_of_block hb) (fun v hv => h1c v (List.mem_of_mem_drop hv))
 have hb2 : (w.drew.setCells b ((i + 1) * 3) (xs.drop (i * 3))).heap[b]? = some (.cells (setL cur ((i + 1) * 3) (xs.drop (i * 3))) 145 (0, 0)) := block_setCells _ _ _ _ hb
 have hv2 : (w.drew.setCells b ((i + 1) * 3) (xs.drop (i * 3))).heap[vb]? = some (.cells ys.toArray 145 (0, 0)) := (upd_setCells (S := fun g => g = b) (fun _ => rfl) _ _ _ (Upd.of_drewN 1 : Upd (fun g => g = b) w w.drew)).heap hv hne
 have hcp2 : ∀ ty dc, (Builtin.copy_ #[141, 141] ty #[.slice (some ⟨b, i * 3, none⟩) (n + 1 - i) dc, .slice (some ⟨vb, 0, none⟩) 1 vc]).run Tryz.prog (w.drew.setCells b ((i + 1) * 3) (xs.drop (i * 3))) = .ok (goInt (Nat.min 1 (n + 1 - i))) ((w.drew.setCells b ((i + 1) * 3) (xs.drop (i * 3))).setCells b (i * 3) ys) := fun ty dc =>
  run_copy_K _ 141 141 ty 145 b (i * 3) (n + 1 - i) dc ⟨vb, 0, none⟩ 1 vc 3 ys Tryz.underlying141 size145 (by rw [hy, show Nat.min 1 (n + 1 - i) = 1 from by simp only [Nat.min_def]; split <;> omega])
   (fun j v hj => by
    rw [add_atn, Nat.zero_add]
    exact cell_of_block hv2 (by simpa using hj))
   (fun j hj => by
    have hlt : i * 3 + j < (setL cur ((i + 1) * 3) (xs.drop (i * 3))).size := by rw [setL_size]; omega
    rw [cell_of_block hb2 (Array.getElem?_eq_getElem hlt)]; rfl)
   (fun j hj => free_of_block hb2) h1v
 obtain ⟨W1, hW1⟩ : ∃ W1, W1 = w.drew.setCells b ((i + 1) * 3) (xs.drop (i * 3)) := ⟨_, rfl⟩
 rw [← hW1] at hcp1 hcp2
 have HW1 := Lib.hid hW1; have HCP1 := Lib.hid hcp1; have HCP2 := Lib.hid hcp2
 rw [← hW1]
 clear hW1 hcp1 hcp2 hb2 hv2 hget hdl hxl
 have H1C := Lib.hid h1c; have H1V := Lib.hid h1v; have HB := Lib.hid hb; have HV := Lib.hid hv; have HX := Lib.hid hx; have HC := Lib.hid hc; have HI := Lib.hid hi; have HR := Lib.hid hroom
 clear h1c h1v hb hv hx hc hi hroom hov
 go_enter Tryz.func324, Tryz.ntmps324
 go_wp2_with (simp only [HOV.out])
 go_region_law (refine step_copy_runI rfl (.tmp 73) (.tmp 76) 141 141 rfl (.slice (some ⟨b, (i + 1) * 3, none⟩) (n - i) (c - (i + 1))) (.slice (some ⟨b, i * 3, none⟩) (n + 1 - i) (c - i)) (by simp [Act.eval, Act.put]) (by simp [Act.eval, Act.put]) (HCP1.out 3 (c - (i + 1)) (c - i)) ?_)
 have hc2 := HCP2.out 3 (c - i)
 go_wp2_with fail
 go_ret
 exact ⟨rfl, by rw [HW1.out]⟩
end
end Go.Proofs.YtnkjnclpakfgnaaGreatDoor
namespace Go.Proofs.YtnkjnclpakfgnaaGreatDoor
open Go.RowKit Go.Lib
set_option maxRecDepth 100000
def GrowPost (T k : Nat) (w w' : World) (e : Ending) (n : Nat) (l : List Value) : Prop := ∃ G cur2, e = .returned (.slice (some ⟨w.heap.size, 0, none⟩) (n + 1) G) ∧ n + 1 ≤ G ∧ G ≤ maxLen ∧ w'.heap[w.heap.size]? = some (.cells cur2 T (0, 0)) ∧ cur2.size = G * k ∧ cur2.toList.take ((n + 1) * k) = l ∧ Below w.heap.size w w'
section
variable {w w' : World} {lv kv d : Value} {b vb n c i vc : Nat} {xs ys : List Value} {cur : Array Value}
set_option maxHeartbeats 4000000 in
theorem einsert_grow (hb : w.heap[b]? = some (.cells cur 145 (0, 0))) (hc : cur.size = c * 3) (hnc : n ≤ c) (hroom : c < n + 1) (hn : n ≤ 1000000) (hx : cur.toList.take (n * 3) = xs) (hi : i < n) (hv : w.heap[vb]? = some (.cells ys.toArray 145 (0, 0))) (hy : ys.length = 3) (h1c : ∀ v ∈ xs, v.oneCell' = true) (h1v : ∀ v ∈ ys, v.oneCell' = true) :
    Calls Tryz.prog 324 #[.slice (some ⟨b, 0, none⟩) n c, .int .i64 (i : Int), .slice (some ⟨vb, 0, none⟩) 1 vc] w fun e w' => GrowPost 145 3 w w' e n (xs.take (i * 3) ++ ys ++ xs.drop (i * 3)) := by
 obtain ⟨i0, hi0, hz0, hzs, hzb⟩ := info_parts Tryz.info145
 have hxl : xs.length = n * 3 := by rw [← hx]; simp [hc]; omega
 have hdl : (xs.drop (i * 3)).length = (n - i) * 3 := by rw [List.length_drop, hxl]; omega
 have htl : (xs.take (i * 3)).length = i * 3 := by rw [List.length_take, hxl]; omega
 have hget : ∀ (j : Nat) v, xs[j]? = some v → cur[j]? = some v := fun j v hj => by
  rw [← hx, List.getElem?_take] at hj
  split at hj
  · simpa using hj
  · cases hj
 have hold : (Builtin.firstCells i0.size i (.slice (some ⟨b, 0, none⟩) i c)).run Tryz.prog w.drew = .ok (xs.take (i * 3)).toArray w.drew := by
  rw [hzs]
  exact run_firstCells_some w.drew 3 i ⟨b, 0, none⟩ i c (xs.take (i * 3)) htl (fun j v hj => by
   rw [add_atn, Nat.zero_add]
   rw [List.getElem?_take] at hj
   split at hj
   · exact cell_of_block hb (hget _ _ hj)
   · cases hj)
 obtain ⟨G, hG⟩ : ∃ G, G = grownCap w (n + 1) c 145 := ⟨_, rfl⟩
 obtain ⟨z, hz⟩ : ∃ z, z = (Value.agg #[.slice none 0 0, .int .i64 0, .int .i64 0]).cells := ⟨_, rfl⟩
 obtain ⟨ROW, hROW⟩ : ∃ ROW : Array Value, ROW = (xs.take (i * 3)).toArray ++ Builtin.zeroCells z (n + 1 - i) ++ Builtin.zeroCells z (G - (n + 1)) := ⟨_, rfl⟩
 have hGn : n + 1 ≤ G := by rw [hG]; exact grownCap_ge w _ _ _
 have hG63 : G ≤ maxLen := by rw [hG]; exact grownCap_le_maxLen w (n + 1) c 145 (by unfold maxLen; omega)
 have hrz : ∀ ty, (Builtin.append_ #[141, 3] ty #[.slice (some ⟨b, 0, none⟩) i c, .int .i64 ((n : Int) + 1 - (i : Int))]).run Tryz.prog w = .ok (.slice (some ⟨w.heap.size, 0, none⟩) (n + 1) G) (w.drew.alloc (.cells ROW 145)) := fun ty => by
  have h := Lib.run_append_grow_zeros w 141 3 ty 145 i0 _ .i64 .i64 Tryz.underlying141 Tryz.underlying3 hi0 hz0 (some ⟨b, 0, none⟩) i c (xs.take (i * 3)) hold (n + 1 - i) (by omega) (by omega) (by omega) (by omega) (by rw [hzb]; omega) (by rw [hzb, show i + (n + 1 - i) = n + 1 by omega]; exact growslice_fits hroom (by omega))
  rw [show i + (n + 1 - i) = n + 1 by omega, ← hG, ← hz, ← hROW] at h
  rw [show (n : Int) + 1 - (i : Int) = ((n + 1 - i : Nat) : Int) by omega]
  exact h
 have hzl : z.size = 3 := by rw [hz]; rfl
 have hRs : ROW.size = G * 3 := by rw [hROW]; simp [Builtin.zeroCells, hzl, hxl]; omega
 have hRt : ∀ j, j < i * 3 → ROW[j]? = xs[j]? := fun j hj => by
  rw [hROW, Array.append_assoc, Array.getElem?_append_left (by simp [hxl]; omega), List.getElem?_toArray, List.getElem?_take, if_pos hj]
 clear hROW hold hz
 obtain ⟨N, hN⟩ : ∃ N, N = w.heap.size := ⟨_, rfl⟩
 have hbN : b < N := by rw [hN]; exact lt_of_block hb
 have hvN : vb < N := by rw [hN]; exact lt_of_block hv
 obtain ⟨W1, hW1⟩ : ∃ W1, W1 = w.drew.alloc (.cells ROW 145) := ⟨_, rfl⟩
 have hB1 : Below N w W1 := by subst hW1; rw [hN]; exact (⟨rfl, rfl, rfl, Nat.le_refl _, fun _ _ => rfl⟩ : Below w.heap.size w w.drew).trans ((Below.refl w.heap.size w.drew).alloc (Nat.le_refl _) _)
 have h1N : W1.heap[N]? = some (.cells ROW 145 (0, 0)) := by subst hW1; rw [hN]; exact heap_new1 w.drew _
 have h1b : W1.heap[b]? = some (.cells cur 145 (0, 0)) := by rw [hB1.block b hbN]; exact hb
 have h1v' : W1.heap[vb]? = some (.cells ys.toArray 145 (0, 0)) := by rw [hB1.block vb hvN]; exact hv
 obtain ⟨W2, hW2⟩ : ∃ W2, W2 = W1.setCells N (i * 3) ys := ⟨_, rfl⟩
 have hu2 : Upd (fun g => g = N) W1 W2 := by subst hW2; exact upd_setCells (S := fun g => g = N) (fun _ => rfl) _ _ _ (Upd.refl _ _)
 have h2N : W2.heap[N]? = some (.cells (setL ROW (i * 3) ys) 145 (0, 0)) := by subst hW2; exact block_setCells _ _ _ _ h1N
 have h2b : W2.heap[b]? = some (.cells cur 145 (0, 0)) := hu2.heap h1b (by omega)
 obtain ⟨W3, hW3⟩ : ∃ W3, W3 = W2.drew.setCells N ((i + 1) * 3) (xs.drop (i * 3)) := ⟨_, rfl⟩
 have hu3 : Upd (fun g => g = N) W2 W3 := by subst hW3; exact upd_setCells (S := fun g => g = N) (fun _ => rfl) _ _ _ (Upd.of_drewN 1)
 have h3N : W3.heap[N]? = some (.cells (setL (setL ROW (i * 3) ys) ((i + 1) * 3) (xs.drop (i * 3))) 145 (0, 0)) := by subst hW3; exact block_setCells _ _ _ _ h2N
 have hcpA : ∀ ty dc, (Builtin.copy_ #[141, 141] ty #[.slice (some ⟨N, i * 3, none⟩) (n + 1 - i) dc, .slice (some ⟨vb, 0, none⟩) 1 vc]).run Tryz.prog W1 = .ok (goInt (Nat.min 1 (n + 1 - i))) W2 := fun ty dc => by
  rw [hW2]
  exact run_copy_K _ 141 141 ty 145 N (i * 3) (n + 1 - i) dc ⟨vb, 0, none⟩ 1 vc 3 ys Tryz.underlying141 size145 (by rw [hy, show Nat.min 1 (n + 1 - i) = 1 from by simp only [Nat.min_def]; split <;> omega])
   (fun j v hj => by rw [add_atn, Nat.zero_add]; exact cell_of_block h1v' (by simpa using hj))
   (fun j hj => by
    have hlt : i * 3 + j < ROW.size := by omega
    rw [cell_of_block h1N (Array.getElem?_eq_getElem hlt)]; rfl)
   (fun j hj => free_of_block h1N) h1v
 have hcpB : ∀ ty dc sc, (Builtin.copy_ #[141, 141] ty #[.slice (some ⟨N, (i + 1) * 3, none⟩) (n - i) dc, .slice (some ⟨b, i * 3, none⟩) (n - i) sc]).run Tryz.prog W2.drew = .ok (goInt (Nat.min (n - i) (n - i))) W3 := fun ty dc sc => by
  rw [hW3]
  exact run_copy_K W2.drew 141 141 ty 145 N ((i + 1) * 3) (n - i) dc ⟨b, i * 3, none⟩ (n - i) sc 3 (xs.drop (i * 3)) Tryz.underlying141 size145 (by rw [hdl, show Nat.min (n - i) (n - i) = n - i from Nat.min_self _])
   (fun j v hj => by
    rw [add_atn]
    rw [List.getElem?_drop] at hj
    exact cell_of_block h2b (hget _ _ hj))
   (fun j hj => by
    have hlt : (i + 1) * 3 + j < (setL ROW (i * 3) ys).size := by rw [setL_size]; omega
    show (W2.cell? ⟨N, (i + 1) * 3 + j, none⟩).isSome = true
    rw [cell_of_block h2N (Array.getElem?_eq_getElem hlt)]; rfl)
   (fun j hj => free_of_block h2N) (fun v hv => h1c v (List.mem_of_mem_drop hv))
 have hfin : (setL (setL ROW (i * 3) ys) ((i + 1) * 3) (xs.drop (i * 3))).toList.take ((n + 1) * 3) = xs.take (i * 3) ++ ys ++ xs.drop (i * 3) := by
  have := grow_take (cur := ROW) (A := i * 3) (N := n * 3) (K := 3) hRt hxl hy (by omega) (by omega)
  rw [show (i + 1) * 3 = i * 3 + 3 by omega, show (n + 1) * 3 = n * 3 + 3 by omega]; exact this
 have hBel : Below w.heap.size w W3 := by
  rw [← hN]
  exact hB1.trans ((hu2.trans hu3).below (B := N) (by rw [hN]; exact hB1.size) (fun g hg e => by omega))
 have hpost : ∀ e, e = .returned (.slice (some ⟨w.heap.size, 0, none⟩) (n + 1) G) → GrowPost 145 3 w W3 e n (xs.take (i * 3) ++ ys ++ xs.drop (i * 3)) := fun e he => ⟨G, _, he, hGn, hG63, by rw [← hN]; exact h3N, by rw [setL_size, setL_size]; exact hRs, hfin, hBel⟩
 rw [← hN] at hrz hpost
 have HPOST := Lib.hid hpost; clear hpost
 rw [← hW1] at hrz
 have hi1 : IntKind.i64.wrap ((i : Int) + 1) = (i : Int) + 1 := IntWalk.i64_in _ (by omega)
 have hn1 : IntKind.i64.wrap ((n : Int) + 1) = (n : Int) + 1 := IntWalk.i64_in _ (by omega)
 have hn2 : IntKind.i64.wrap ((n : Int) + 1 - (i : Int)) = (n : Int) + 1 - (i : Int) := IntWalk.i64_in _ (by omega)
 have e1 : ¬ (i : Int) = n := by omega
 have e2 : (c : Int) < (n : Int) + 1 := by omega
 have e3 : (i : Int) ≤ n := by omega
 have e4 : (0 : Int) ≤ (i : Int) + 1 := by omega
 have e5 : (i : Int) + 1 ≤ (n : Int) + 1 := by omega
 have e7 : ¬ c = i := by omega
 have e8 : ¬ G = i + 1 := by omega
 have e9 : ((i : Int) + 1).toNat = i + 1 := by omega
 have e11 : (i : Int) ≤ (n : Int) + 1 := by omega
 have e13 : ¬ G = i := by omega
 have e14 : (i : Int) ≤ (c : Int) := by omega
 have H1 := Lib.hid hBel; have H2 := Lib.hid hfin; have H3 := Lib.hid h3N; have HS := Lib.hid hRs; have HCA := Lib.hid hcpA; have HCB := Lib.hid hcpB; have HRZ := Lib.hid hrz; have HNN := Lib.hid hN; have HG1 := Lib.hid hGn; have HG2 := Lib.hid hG63; have HB := Lib.hid hb; have HV := Lib.hid hv
 clear hBel hfin h3N hRs hcpA hcpB hrz hN hGn hG63 hu3 hu2 h2b h2N h1b h1N h1v' hB1 hW1 hW2 hW3 hbN hvN hRt hget hdl htl hxl hx hc hG h1c h1v hb hv hroom hnc hn hzl
 go_enter Tryz.func324, Tryz.ntmps324
 have q2 := HCA.out 3 (G - i)
 go_wp2_with (first
  | (at_builtin; refine Lib.wpList_append_run _ rfl (.tmp 34) (.tmp 39) 141 3 rfl _ _ rfl rfl _ _ (HRZ.out _) ?_)
  | fail)
 go_region_law (refine step_copy_runI rfl (.tmp 50) (.tmp 53) 141 141 rfl (.slice (some ⟨N, (i + 1) * 3, none⟩) (n - i) (G - (i + 1))) (.slice (some ⟨b, i * 3, none⟩) (n - i) (c - i)) (by simp [Act.eval, Act.put]) (by simp [Act.eval, Act.put]) (HCB.out 3 (G - (i + 1)) (c - i)) ?_)
 go_wp2_with fail
 go_ret
 exact HPOST.out _ (by rw [HNN.out]; rfl)
end
end Go.Proofs.YtnkjnclpakfgnaaGreatDoor
namespace Go.Proofs.YtnkjnclpakfgnaaGreatDoor
open Go.RowKit
set_option maxRecDepth 100000
section
variable {w w' : World} {lv kv d : Value} {b vb n i vc : Nat} {xs ys : List Value}
set_option maxHeartbeats 4000000 in
theorem einsert_end (h : w.ownsRow 0 145 3 lv n xs) (hv : w.heap[vb]? = some (.cells ys.toArray 145 (0, 0))) (hy : ys.length = 3) (h1v : ∀ v ∈ ys, v.oneCell' = true) (hn : n ≤ 1000000) :
    Calls Tryz.prog 324 #[lv, .int .i64 (n : Int), .slice (some ⟨vb, 0, none⟩) 1 vc] w fun e w' => ∃ v', e = .returned v' ∧ w'.ownsRow 0 145 3 v' (n + 1) (xs ++ ys) ∧ Upd (fun b => lv.ownBlock = some b) w w' ∧ (∀ g, v'.ownBlock = some g → lv.ownBlock = some g ∨ w.heap.size ≤ g) := by
 obtain ⟨a, cap, rfl⟩ := ownsRow_slice h
 obtain ⟨i0, hi0, hz0, hzs, hzb⟩ := info_parts Tryz.info145
 have hcs : ∀ (j : Nat) u, ys[j]? = some u → w.cell? ((⟨vb, 0, none⟩ : Addr).add j) = some u := fun j u hj => by
  rw [add_atn, Nat.zero_add]; exact cell_of_block hv (by simpa using hj)
 have HCS := Lib.hid hcs; have H := Lib.hid h; have H1 := Lib.hid h1v; have HY := Lib.hid (show ys.length = 1 * 3 by omega)
 clear hcs h h1v hy hv
 have e1 : (0 : Int) ≤ n := by omega
 by_cases hcn : cap = n
 · subst hcn
   go_enter Tryz.func324, Tryz.ntmps324
   go_wp2_with (at_builtin; refine wpList_append_mine rfl (.tmp 23) (.tmp 24) 141 rfl 0 145 i0 (.agg #[.slice none 0 0, .int .i64 0, .int .i64 0]) 3 40 Tryz.underlying141 hi0 hz0 hzs hzb rfl (by decide) _ _ _ rfl H.out ⟨vb, 0, none⟩ 1 vc ys rfl HY.out HCS.out H1.out ?c3 ?c4 ?c5 ?_)
   case c3 => unfold maxLen; omega
   case c4 => omega
   case c5 => exact Nat.zero_le _
   intro v' w5 hown' hupd hnew
   go_wp2_with fail
   go_ret
   exact ⟨_, rfl, hown', hupd, hnew⟩
 · go_enter Tryz.func324, Tryz.ntmps324
   go_wp2_with (at_builtin; refine wpList_append_mine rfl (.tmp 23) (.tmp 24) 141 rfl 0 145 i0 (.agg #[.slice none 0 0, .int .i64 0, .int .i64 0]) 3 40 Tryz.underlying141 hi0 hz0 hzs hzb rfl (by decide) _ _ _ rfl H.out ⟨vb, 0, none⟩ 1 vc ys rfl HY.out HCS.out H1.out ?c3 ?c4 ?c5 ?_)
   case c3 => unfold maxLen; omega
   case c4 => omega
   case c5 => exact Nat.zero_le _
   intro v' w5 hown' hupd hnew
   go_wp2_with fail
   go_ret
   exact ⟨_, rfl, hown', hupd, hnew⟩
/-- slices.Insert of one entry. -/
theorem einsert_at (h : w.ownsRow 0 145 3 lv n xs) (hi : i ≤ n) (hv : w.heap[vb]? = some (.cells ys.toArray 145 (0, 0))) (hy : ys.length = 3) (hne : lv.ownBlock ≠ some vb) (h1c : ∀ v ∈ xs, v.oneCell' = true) (h1v : ∀ v ∈ ys, v.oneCell' = true) (hn : n ≤ 1000000) :
    Calls Tryz.prog 324 #[lv, .int .i64 (i : Int), .slice (some ⟨vb, 0, none⟩) 1 vc] w fun e w' => ∃ v', e = .returned v' ∧ w'.ownsRow 0 145 3 v' (n + 1) (xs.take (i * 3) ++ ys ++ xs.drop (i * 3)) ∧ Upd (fun b => lv.ownBlock = some b) w w' ∧ (∀ g, v'.ownBlock = some g → lv.ownBlock = some g ∨ w.heap.size ≤ g) := by
 have hl := h.1
 by_cases hin : i = n
 · subst hin
   rw [List.take_of_length_le (by omega), List.drop_of_length_le (by omega), List.append_nil]
   exact einsert_end h hv hy h1v hn
 · obtain ⟨_, ⟨_, h2⟩ | ⟨g, cap, cur, rfl, hb, hh, hnc, hm, hz, ht⟩⟩ := h
   · omega
   · have hlen : (xs.take (i * 3) ++ ys ++ xs.drop (i * 3)).length = (n + 1) * 3 := by simp [hl, hy]; omega
     by_cases hr : n + 1 ≤ cap
     · refine (einsert_shift (i := i) (vc := vc) hh hz hr hm ht (by omega) hv hy (fun e => hne (by rw [e]; rfl)) h1c h1v).mono ?_
       rintro e w1 ⟨rfl, rfl⟩
       refine ⟨_, rfl, ⟨hlen, .inr ⟨g, cap, _, rfl, Nat.zero_le _, block_setCells _ _ _ _ (block_setCells _ _ w.drew _ hh), hr, hm, by rw [setL_size, setL_size]; exact hz, ?_⟩⟩, (upd_setCells (S := fun b => b = g) (fun _ => rfl) _ _ _ (upd_setCells (S := fun b => b = g) (fun _ => rfl) _ _ _ (Upd.of_drewN 1 : Upd _ w w.drew))).mono (fun b _ e => by rw [e]; rfl), fun g' e => .inl e⟩
       have := shift_take (A := i * 3) (N := n * 3) (K := 3) (ys := ys) ht hl hy (by omega) (by omega)
       rw [show (i + 1) * 3 = i * 3 + 3 by omega, show (n + 1) * 3 = n * 3 + 3 by omega]; exact this
     · refine (einsert_grow (i := i) (vc := vc) hh hz hnc (by omega) hn ht (by omega) hv hy h1c h1v).mono ?_
       rintro e w1 ⟨G, cur2, rfl, a1, a2, a3, a4, a5, a6⟩
       exact ⟨_, rfl, ⟨hlen, .inr ⟨_, G, cur2, rfl, Nat.zero_le _, a3, a1, a2, a4, a5⟩⟩, Upd.same a6, fun g' e => .inr (by cases e; exact Nat.le_refl _)⟩
end
end Go.Proofs.YtnkjnclpakfgnaaGreatDoor
