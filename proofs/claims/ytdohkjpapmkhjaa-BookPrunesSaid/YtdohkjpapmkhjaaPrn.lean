/-
  BookPrunes' state in memory: a log, a book, the snapshots of those that run, the order in which they began.
-/
import Derived.Test.YtdohkjpapmkhjaaOps
import Derived.Test.YtdohkjpapmkhjaaPrnP
import Derived.Test.YtdohkjpapmkhjaaDesk
namespace Go.Proofs.Ytdohkjpapmkhjaa
open Go.RowKit

structure Prn (w0 : World) (ub pl p : Nat) (ov : Value) (c : Nat → Nat) (w : World) (L : List Nat) (lv : Int → Option (Snp × Value)) (m : List (Int × Value)) (O : List Int) (n : Int) : Prop where
  l : LogAt c 1 w pl 1 L
  b : BookOk c 2 w p n
  mp : MapOf (Value.int .u64) w ub m
  cu : c ub = 3
  get : ∀ y, mget m y = (lv y).map fun z => z.1.val z.2
  once : Once m
  live : ∀ y z, lv y = some z → Run w z.2 z.1.run ∧ ∀ g, z.2.ownBlock = some g → c g = 9
  o : w.ownsRow 0 23 1 ov O.length (u64s O)
  oc : ∀ g, ov.ownBlock = some g → c g = 4
  col : ∀ b, b < w0.heap.size → c b = 0
  below : Below w0.heap.size w0 w
/-- What the snapshots of those that run owe to the log. -/
structure PrnOk (L : List Nat) (lv : Int → Option (Snp × Value)) : Prop where
  lives : Lives L lv []
  fits : ∀ y z, lv y = some z → Fits L z.1 ∧ z.1.own = y
section
variable {w0 : World} {ub pl p : Nat} {ov rv : Value} {c c' : Nat → Nat} {w w' : World} {L L' : List Nat} {lv : Int → Option (Snp × Value)} {m : List (Int × Value)} {O : List Int} {n n' : Int} {s : Snp}
theorem BookOk.upd {k : Nat} {S : Nat → Prop} (h : BookOk c k w p n) (u : Upd S w w') (hs : ∀ b, c b = k → ¬ S b) : BookOk c k w' p n := by
  obtain ⟨tv, iv, T, I, last, h1, h2, h3⟩ := h
  exact ⟨tv, iv, T, I, last, h1.upd u hs, h2, h3⟩
theorem BookOk.recol {k : Nat} (h : BookOk c k w p n) (hc : ∀ b, b < w.heap.size → c' b = c b) : BookOk c' k w p n := by
  obtain ⟨tv, iv, T, I, last, h1, h2, h3⟩ := h
  exact ⟨tv, iv, T, I, last, h1.recol hc, h2, h3⟩
theorem Prn.recol (h : Prn w0 ub pl p ov c w L lv m O n) (hold : ∀ b, b < w.heap.size → c' b = c b) : Prn w0 ub pl p ov c' w L lv m O n :=
  ⟨h.l.recol hold, h.b.recol hold, h.mp, (hold ub h.mp.lt).trans h.cu, h.get, h.once, fun y z e => ⟨(h.live y z e).1, fun g hg => (hold g ((h.live y z e).1.lt g hg)).trans ((h.live y z e).2 g hg)⟩, h.o,
    fun g hg => (hold g (World.ownsRow.lt h.o g hg).2).trans (h.oc g hg), fun b hb => (hold b (Nat.lt_of_lt_of_le hb h.below.size)).trans (h.col b hb), h.below⟩
theorem Prn.same (h : Prn w0 ub pl p ov c w L lv m O n) (u : Below w.heap.size w w') : Prn w0 ub pl p ov c w' L lv m O n := by
  obtain ⟨tv, iv, T, I, last, h1, h2, h3⟩ := h.b
  exact ⟨h.l.same u, ⟨tv, iv, T, I, last, h1.same u, h2, h3⟩, h.mp.same u, h.cu, h.get, h.once, fun y z e => ⟨(h.live y z e).1.same u, (h.live y z e).2⟩, ownsRow_upd (S := fun _ => False) h.o (Upd.same u) (fun _ _ x => x), h.oc, h.col, h.below.trans (u.mono h.below.size)⟩
/-- What the log alone suffers. -/
theorem Prn.log (h : Prn w0 ub pl p ov c w L lv m O n) (hl : LogAt c 1 w' pl 1 L') (u : Upd (fun b => c b = 1) w w') : Prn w0 ub pl p ov c w' L' lv m O n :=
  ⟨hl, h.b.upd u (fun b e e2 => by omega), h.mp.upd u (by have := h.cu; omega), h.cu, h.get, h.once, fun y z e => ⟨(h.live y z e).1.upd u (fun b hb e1 => by have := (h.live y z e).2 b hb; omega), (h.live y z e).2⟩, ownsRow_upd h.o u (fun b hb e => by have := h.oc b hb; omega), h.oc, h.col,
    h.below.trans (u.below h.below.size (fun b hb e => by have := h.col b hb; omega))⟩
/-- What the book alone suffers. -/
theorem Prn.book (h : Prn w0 ub pl p ov c w L lv m O n) (hb : BookOk c 2 w' p n') (u : Upd (fun b => c b = 2) w w') : Prn w0 ub pl p ov c w' L lv m O n' :=
  ⟨h.l.upd u (fun b e e2 => by omega), hb, h.mp.upd u (by have := h.cu; omega), h.cu, h.get, h.once, fun y z e => ⟨(h.live y z e).1.upd u (fun b hb e1 => by have := (h.live y z e).2 b hb; omega), (h.live y z e).2⟩, ownsRow_upd h.o u (fun b hb e => by have := h.oc b hb; omega), h.oc, h.col,
    h.below.trans (u.below h.below.size (fun b hb e => by have := h.col b hb; omega))⟩
/-- One that runs more. -/
theorem Prn.put (h : Prn w0 ub pl p ov c w L lv m O n) (hr : Run w rv s.run) (hg : ∀ g, rv.ownBlock = some g → c g = 9) (x : Int) (hm : MapOf (Value.int .u64) w' ub (mset m x (s.val rv))) (u : Upd (fun b => b = ub) w w') :
    Prn w0 ub pl p ov c w' L (fun y => if y = x then some (s, rv) else lv y) (mset m x (s.val rv)) O n := by
  have h2 := h.cu
  refine ⟨h.l.upd u (fun b e e2 => by subst e2; omega), h.b.upd u (fun b e e2 => by subst e2; omega), hm, h.cu, fun y => ?_, h.once.mset _ _, fun y z e => ?_, ownsRow_upd h.o u (fun b hb e => by subst e; have := h.oc b hb; omega), h.oc, h.col, h.below.trans (u.below h.below.size (fun b hb e => by subst e; have := h.col b hb; omega))⟩
  · rw [mget_mset]
    by_cases e : y = x
    · rw [if_pos e, if_pos e]; rfl
    · rw [if_neg e, if_neg e]; exact h.get y
  · split at e
    · obtain rfl := Option.some.inj e
      exact ⟨hr.upd u (fun b hb e => by subst e; have := hg b hb; omega), hg⟩
    · exact ⟨(h.live y z e).1.upd u (fun b hb e2 => by subst e2; have := (h.live y z e).2 b hb; omega), (h.live y z e).2⟩
/-- One that runs less. -/
theorem Prn.del (h : Prn w0 ub pl p ov c w L lv m O n) (x : Int) (hm : MapOf (Value.int .u64) w' ub (mdel m x)) (u : Upd (fun b => b = ub) w w') :
    Prn w0 ub pl p ov c w' L (fun y => if y = x then none else lv y) (mdel m x) O n := by
  have h2 := h.cu
  refine ⟨h.l.upd u (fun b e e2 => by subst e2; omega), h.b.upd u (fun b e e2 => by subst e2; omega), hm, h.cu, fun y => ?_, h.once.mdel _, fun y z e => ?_, ownsRow_upd h.o u (fun b hb e => by subst e; have := h.oc b hb; omega), h.oc, h.col, h.below.trans (u.below h.below.size (fun b hb e => by subst e; have := h.col b hb; omega))⟩
  · rw [mget_mdel h.once]
    by_cases e : y = x
    · rw [if_pos e, if_pos e]; rfl
    · rw [if_neg e, if_neg e]; exact h.get y
  · split at e
    · cases e
    · exact ⟨(h.live y z e).1.upd u (fun b hb e2 => by subst e2; have := (h.live y z e).2 b hb; omega), (h.live y z e).2⟩
/-- One more in the order. -/
theorem Prn.grow (h : Prn w0 ub pl p ov c w L lv m O n) {ov' : Value} {x : Int} (ho : w'.ownsRow 0 23 1 ov' (O.length + 1) (u64s O ++ [.int .u64 x])) (u : Upd (fun b => ov.ownBlock = some b) w w')
    (hn : ∀ g, ov'.ownBlock = some g → ov.ownBlock = some g ∨ w.heap.size ≤ g) : Prn w0 ub pl p ov' (Ytdohkjpapmkhjaa.col c w.heap.size 4) w' L lv m (O ++ [x]) n := by
  have hold : ∀ b, b < w.heap.size → Ytdohkjpapmkhjaa.col c w.heap.size 4 b = c b := fun b hb => col_old hb
  have k := h.recol hold
  have kd : ∀ b, ov.ownBlock = some b → Ytdohkjpapmkhjaa.col c w.heap.size 4 b = 4 := fun b hb => (hold b (World.ownsRow.lt h.o b hb).2).trans (h.oc b hb)
  refine ⟨k.l.upd u (fun b e e2 => by have := kd b e2; omega), k.b.upd u (fun b e e2 => by have := kd b e2; omega), k.mp.upd u (fun e2 => by have := kd _ e2; have := k.cu; omega), k.cu, k.get, k.once, fun y z e => ⟨(k.live y z e).1.upd u (fun b hb e2 => by have := kd b e2; have := (k.live y z e).2 b hb; omega), (k.live y z e).2⟩, ?_, fun g hg => ?_, k.col,
    k.below.trans (u.below k.below.size (fun b hb e => by have := kd b e; have := k.col b hb; omega))⟩
  · rw [List.length_append]; simpa [u64s] using ho
  · rcases hn g hg with e | e
    · exact kd g e
    · exact col_new e
end
end Go.Proofs.Ytdohkjpapmkhjaa
