/- MEMORY, PLAINLY: 'Upd S w w'': w' is w with new blocks, and of the old ones those of S alone may have been written. Owned rows behind it. No program is named here. · Small laws of memory. No program. No conditions. -/
import Derived.WalkKit
import Derived.Lib.Hide
import Derived.WalkSpells
import Derived.WalkLawsBesides
import Derived.Deep.QuietTactic
import Derived.BigQuiet
import Derived.Deep.RegionHeld3
namespace Go.Proofs.YtnkjnclpakfgnaaGreatDoor
open Go.RowKit

/-- w' is w with new blocks; of the old blocks only those of S may hold something else. -/
structure Upd (S : Nat → Prop) (w w' : World) : Prop where
  os : w'.os = w.os
  tape : w'.tape = w.tape
  output : w'.output = w.output
  size : w.heap.size ≤ w'.heap.size
  block : ∀ b, b < w.heap.size → ¬ S b → w'.heap[b]? = w.heap[b]?

section
variable {S T : Nat → Prop} {w w1 w2 : World}

theorem Upd.refl (S : Nat → Prop) (w : World) : Upd S w w := ⟨rfl, rfl, rfl, Nat.le_refl _, fun _ _ _ => rfl⟩

theorem Upd.trans (h : Upd S w w1) (k : Upd S w1 w2) : Upd S w w2 :=
  ⟨k.os.trans h.os, k.tape.trans h.tape, k.output.trans h.output, Nat.le_trans h.size k.size,
    fun b hb hs => (k.block b (Nat.lt_of_lt_of_le hb h.size) hs).trans (h.block b hb hs)⟩

/-- The first step's own new blocks may be written by the second. -/
theorem Upd.trans_new (h : Upd S w w1) (k : Upd T w1 w2) (ht : ∀ b, b < w.heap.size → T b → S b) : Upd S w w2 :=
  ⟨k.os.trans h.os, k.tape.trans h.tape, k.output.trans h.output, Nat.le_trans h.size k.size,
    fun b hb hs => (k.block b (Nat.lt_of_lt_of_le hb h.size) (fun x => hs (ht b hb x))).trans (h.block b hb hs)⟩

theorem Upd.mono (h : Upd S w w1) (hs : ∀ b, b < w.heap.size → S b → T b) : Upd T w w1 :=
  ⟨h.os, h.tape, h.output, h.size, fun b hb ht => h.block b hb (fun x => ht (hs b hb x))⟩

theorem Upd.of_below {B : Nat} (h : Below B w w1) (hs : ∀ b, b < w.heap.size → B ≤ b → S b) : Upd S w w1 :=
  ⟨h.os, h.tape, h.output, h.size, fun b hb ht => h.block b (Nat.lt_of_not_le (fun x => ht (hs b hb x)))⟩

theorem Upd.same (h : Below w.heap.size w w1) : Upd S w w1 := Upd.of_below h (fun _ hb hB => absurd hb (Nat.not_lt_of_le hB))

theorem Upd.of_drewN (k : Nat) : Upd S w (w.drewN k) := ⟨rfl, rfl, rfl, Nat.le_refl _, fun _ _ _ => rfl⟩

theorem Upd.below {B : Nat} (h : Upd S w w1) (hB : B ≤ w.heap.size) (hs : ∀ b, b < B → ¬ S b) : Below B w w1 :=
  ⟨h.os, h.tape, h.output, h.size, fun b hb => h.block b (Nat.lt_of_lt_of_le hb hB) (hs b hb)⟩

theorem Upd.cell (h : Upd S w w1) {a : Addr} {v : Value} (hc : w.cell? a = some v) (hs : ¬ S a.block) : w1.cell? a = some v :=
  (World.cell?_of_block (h.block a.block (World.block_lt_of_cell? w a hc) hs)).trans hc

theorem Upd.heap {b : Nat} {o : Obj} (h : Upd S w w1) (hb : w.heap[b]? = some o) (hs : ¬ S b) : w1.heap[b]? = some o :=
  (h.block b (lt_of_block hb) hs).trans hb

theorem Upd.drew (h : Upd S w w1) : Upd S w w1.drew := ⟨h.os, h.tape, h.output, h.size, h.block⟩
theorem Upd.drewN (h : Upd S w w1) (n : Nat) : Upd S w (w1.drewN n) := ⟨h.os, h.tape, h.output, h.size, h.block⟩

theorem Upd.alloc (h : Upd S w w1) (o : Obj) : Upd S w (w1.alloc o) :=
  h.trans_new (T := fun _ => False) (Upd.same ((Below.refl _ _).alloc (Nat.le_refl _) o)) (fun _ _ x => x.elim)

theorem Upd.setCell (h : Upd S w w1) {a : Addr} (v : Value) (ha : a.block < w.heap.size → S a.block) : Upd S w (w1.setCell a v) :=
  ⟨h.os, h.tape, h.output, by simpa [World.setCell] using h.size,
    fun b hb hs => (Below.heap_setCell w1 a v b (fun e => hs (by subst e; exact ha hb))).trans (h.block b hb hs)⟩

theorem Upd.grown (h : Upd S w w1) {row : Option Nat} (g : w1.grownBy w2 row) (hr : ∀ b, row = some b → b < w.heap.size → S b) : Upd S w w2 :=
  ⟨g.os.trans h.os, g.tape.trans h.tape, g.output.trans h.output, Nat.le_trans h.size g.size,
    fun b hb hs => (g.block b (Nat.lt_of_lt_of_le hb h.size) (fun e => hs (hr b e.symm hb))).trans (h.block b hb hs)⟩

/-- An owned row where its block was not written. -/
theorem ownsRow_upd {base : Nat} {e : TypeId} {size n : Nat} {v : Value} {xs : List Value} (h : w.ownsRow base e size v n xs) (u : Upd S w w1)
    (hs : ∀ b, v.ownBlock = some b → ¬ S b) : w1.ownsRow base e size v n xs := by
  obtain ⟨hl, ⟨h1, h2⟩ | ⟨g, cap, cur, hv, hb, hh, hn, hm, hz, ht⟩⟩ := h
  · exact ⟨hl, .inl ⟨h1, h2⟩⟩
  · exact ⟨hl, .inr ⟨g, cap, cur, hv, hb, u.heap hh (hs g (by subst hv; rfl)), hn, hm, hz, ht⟩⟩

theorem ownsRow_base {base base' : Nat} {e : TypeId} {size n : Nat} {v : Value} {xs : List Value} (h : w.ownsRow base e size v n xs)
    (hb : base' ≤ base) : w.ownsRow base' e size v n xs := by
  obtain ⟨hl, h | ⟨g, cap, cur, hv, hb', hh, hn, hm, hz, ht⟩⟩ := h
  · exact ⟨hl, .inl h⟩
  · exact ⟨hl, .inr ⟨g, cap, cur, hv, Nat.le_trans hb hb', hh, hn, hm, hz, ht⟩⟩

/-- Element j of a row of one cell each. -/
theorem ownsRow_cell1 {base : Nat} {e : TypeId} {n : Nat} {v : Value} {xs : List Value} (h : w.ownsRow base e 1 v n xs) {j : Nat} {u : Value} (hj : xs[j]? = some u) :
    ∃ g cap, v = .slice (some ⟨g, 0, none⟩) n cap ∧ w.cell? ⟨g, j, none⟩ = some u ∧ w.frozen? ⟨g, j, none⟩ = false ∧ base ≤ g ∧ g < w.heap.size := by
  obtain ⟨hl, ⟨h1, h2⟩ | ⟨g, cap, cur, hv, hb, hh, hn, hm, hz, ht⟩⟩ := h
  · subst h2
    have : xs = [] := List.eq_nil_of_length_eq_zero (by simpa using hl)
    subst this; simp at hj
  · refine ⟨g, cap, hv, ?_, ?_, hb, lt_of_block hh⟩
    · have hjl := (List.getElem?_eq_some_iff.1 hj).1
      rw [← ht, List.getElem?_take] at hj
      split at hj
      · simp only [World.cell?, hh, Option.isSome_none, Bool.false_eq_true, if_false]
        rw [← Array.getElem?_toList]; exact hj
      · simp at hj
    · simp [World.frozen?, hh]

/-- A cell of a row, whatever its elements' size. -/
theorem ownsRow_cell {base : Nat} {e : TypeId} {size n : Nat} {v : Value} {xs : List Value} (h : w.ownsRow base e size v n xs) {j : Nat} {u : Value} (hj : xs[j]? = some u) :
    ∃ g cap, v = .slice (some ⟨g, 0, none⟩) n cap ∧ w.cell? ⟨g, j, none⟩ = some u ∧ w.frozen? ⟨g, j, none⟩ = false ∧ base ≤ g ∧ g < w.heap.size := by
  obtain ⟨hl, ⟨h1, h2⟩ | ⟨g, cap, cur, hv, hb, hh, hn, hm, hz, ht⟩⟩ := h
  · subst h2
    have : xs = [] := List.eq_nil_of_length_eq_zero (by simpa using hl)
    subst this; simp at hj
  · refine ⟨g, cap, hv, ?_, ?_, hb, lt_of_block hh⟩
    · rw [← ht, List.getElem?_take] at hj
      split at hj
      · simp only [World.cell?, hh, Option.isSome_none, Bool.false_eq_true, if_false]
        rw [← Array.getElem?_toList]; exact hj
      · simp at hj
    · simp [World.frozen?, hh]

/-- A row of a list's elements laid out, each of m cells. -/
theorem getElem?_flat {α : Type} (g : α → List Value) (m : Nat) (hg : ∀ a, (g a).length = m) : ∀ (l : List α) (k j : Nat), j < m → (l.flatMap g)[k * m + j]? = l[k]?.bind fun a => (g a)[j]?
  | [], k, j, _ => by simp
  | a :: l, 0, j, hj => by
    rw [List.flatMap_cons, List.getElem?_append_left (by rw [hg]; omega)]; simp
  | a :: l, k + 1, j, hj => by
    have e : (k + 1) * m + j = m + (k * m + j) := by rw [Nat.add_mul]; omega
    rw [List.flatMap_cons, e, List.getElem?_append_right (by rw [hg]; omega), hg, Nat.add_sub_cancel_left, getElem?_flat g m hg l k j hj]
    simp

/-- A row of at least one element is no nil. -/
theorem ownsRow_some {base : Nat} {e : TypeId} {size n : Nat} {v : Value} {xs : List Value} (h : w.ownsRow base e size v n xs) (hn : 0 < n) :
    ∃ g cap, v = .slice (some ⟨g, 0, none⟩) n cap ∧ n ≤ cap ∧ base ≤ g ∧ g < w.heap.size := by
  obtain ⟨hl, ⟨h1, h2⟩ | ⟨g, cap, cur, hv, hb, hh, hn, hm, hz, ht⟩⟩ := h
  · omega
  · exact ⟨g, cap, hv, hn, hb, lt_of_block hh⟩

/-- Whatever it is, it is a slice of n. -/
theorem ownsRow_slice {base : Nat} {e : TypeId} {size n : Nat} {v : Value} {xs : List Value} (h : w.ownsRow base e size v n xs) :
    ∃ a cap, v = .slice a n cap := by
  obtain ⟨hl, ⟨h1, h2⟩ | ⟨g, cap, cur, hv, hb, hh, hn, hm, hz, ht⟩⟩ := h
  · exact ⟨none, 0, by rw [h1, h2]⟩
  · exact ⟨_, cap, hv⟩

/-- A store into element j of a row of one cell each. -/
theorem ownsRow_set1 {base : Nat} {e : TypeId} {n g cap j : Nat} {xs : List Value} (h : w.ownsRow base e 1 (.slice (some ⟨g, 0, none⟩) n cap) n xs) (u : Value) :
    (w.setCell ⟨g, j, none⟩ u).ownsRow base e 1 (.slice (some ⟨g, 0, none⟩) n cap) n (xs.set j u) := by
  obtain ⟨hl, ⟨h1, h2⟩ | ⟨g', cap', cur, hv, hb, hh, hn, hm, hz, ht⟩⟩ := h
  · cases h1
  · simp only [Value.slice.injEq, Option.some.injEq, Addr.mk.injEq] at hv
    obtain ⟨⟨rfl, _⟩, _, rfl⟩ := hv
    refine ⟨by simpa using hl, .inr ⟨g, cap, cur.setIfInBounds j u, rfl, hb, ?_, hn, hm, by simpa using hz, ?_⟩⟩
    · simp only [World.setCell]
      rw [Array.getElem?_modify]
      simp [hh]
    · rw [Array.toList_setIfInBounds, List.take_set, ht]

/-- A block's cells, all known. -/
theorem cell_of_block {b i : Nat} {cs : Array Value} {t : TypeId} {fz : Nat × Nat} {v : Value} (h : w.heap[b]? = some (.cells cs t fz)) (hi : cs[i]? = some v) : w.cell? ⟨b, i, none⟩ = some v := by
  simp [World.cell?, h, hi]
theorem free_of_block {b i : Nat} {cs : Array Value} {t : TypeId} (h : w.heap[b]? = some (.cells cs t (0, 0))) : w.frozen? ⟨b, i, none⟩ = false := by
  simp [World.frozen?, h]
theorem block_setCell {b i : Nat} {cs : Array Value} {t : TypeId} {fz : Nat × Nat} (h : w.heap[b]? = some (.cells cs t fz)) (v : Value) : (w.setCell ⟨b, i, none⟩ v).heap[b]? = some (.cells (cs.setIfInBounds i v) t fz) := by
  simp only [World.setCell]
  rw [Array.getElem?_modify]
  simp [h]
theorem block_setCell_other {b i g : Nat} {o : Obj} (h : w.heap[b]? = some o) (hne : b ≠ g) (v : Value) : (w.setCell ⟨g, i, none⟩ v).heap[b]? = some o :=
  (Below.heap_setCell w ⟨g, i, none⟩ v b hne).trans h
theorem block_alloc {b : Nat} {o : Obj} (h : w.heap[b]? = some o) (o' : Obj) : (w.alloc o').heap[b]? = some o :=
  (Below.heap_alloc w o' b (lt_of_block h)).trans h
theorem block_grown {b : Nat} {o : Obj} {row : Option Nat} (h : w.heap[b]? = some o) (g : w.grownBy w1 row) (hne : row ≠ some b) : w1.heap[b]? = some o :=
  (g.block b (lt_of_block h) (fun e => hne e.symm)).trans h
end

/-- Whose a block is, once the blocks from n on are k's. -/
def col (c : Nat → Nat) (n k : Nat) : Nat → Nat := fun b => if b < n then c b else k
theorem col_old {c : Nat → Nat} {n k b : Nat} (h : b < n) : col c n k b = c b := by simp [col, h]
theorem col_new {c : Nat → Nat} {n k b : Nat} (h : n ≤ b) : col c n k b = k := by simp [col, Nat.not_lt_of_le h]
section
variable {P : Program} {w : World}
/-- 'append(v, src...)' on a row of one's own: it is written where it lies, or lies in the newest block. -/
theorem run_append_mine (base : Nat) (t ty e : TypeId) (i : TypeInfo) (z : Value) (size bytes : Nat) (ht : P.underlying t = some (.slice e)) (hi : P.info? e = some i) (hz : i.zero = some z)
    (hsize : i.size = size) (hby : i.bytes = bytes) (hzs : z.cells.size = size) (hsz : 0 < size)
    (v : Value) (n : Nat) (xs : List Value) (hown : w.ownsRow base e size v n xs)
    (a : Addr) (m c : Nat) (news : List Value) (hl : news.length = m * size) (hnews : ∀ j u, news[j]? = some u → w.cell? (a.add j) = some u) (h1 : ∀ u ∈ news, u.oneCell' = true)
    (h63 : n + m ≤ maxLen) (hbytes : (n + m) * bytes ≤ 140737488355328) (hbase : base ≤ w.heap.size) :
    ∃ v' w', (Builtin.append_ #[t, t] ty #[v, .slice (some a) m c]).run P w = .ok v' w' ∧ w'.ownsRow base e size v' (n + m) (xs ++ news) ∧
      Upd (fun b => v.ownBlock = some b) w w' ∧ ∀ g, v'.ownBlock = some g → v.ownBlock = some g ∨ w.heap.size ≤ g := by
  obtain ⟨v', w', hr, h2, h3, h4⟩ := run_append_own (P := P) w base t ty e i z size bytes ht hi hz hsize hby hzs hsz v n xs hown a m c news hl hnews h1 h63 hbytes hbase
  refine ⟨v', w', hr, h2, (Upd.refl _ w).grown h3 (fun b hb _ => hb), ?_⟩
  subst hsize
  rcases hown.2 with ⟨rfl, rfl⟩ | ⟨g, cap, cur, rfl, hbg, hg, hnc, hcm, hcs, htake⟩
  · obtain ⟨v2, w2, hr2, h22, _, _⟩ := run_append_own (P := P) w w.heap.size t ty e i z i.size bytes ht hi hz rfl hby hzs hsz _ 0 [] (World.ownsRow_nil _ _ _ _) a m c news hl hnews h1 h63 hbytes (Nat.le_refl _)
    rw [hr] at hr2
    obtain ⟨rfl, rfl⟩ := Result.ok.inj hr2
    exact fun g hg => .inr (World.ownsRow.lt h22 g hg).1
  · by_cases hroom : n + m ≤ cap
    · have hfit : n * i.size + news.length ≤ cur.size := by rw [hl, hcs, ← Nat.add_mul]; exact Nat.mul_le_mul_right _ hroom
      have hr2 := run_append_room (P := P) w t ty e i ht hi g n cap cur hg a m c news hl hnews h1 hroom hfit
      rw [hr] at hr2
      obtain ⟨rfl, _⟩ := Result.ok.inj hr2
      exact fun g hg => .inl hg
    · have holds : ∀ j u, xs[j]? = some u → w.cell? ((⟨g, 0, none⟩ : Addr).add j) = some u := hown.cells (g := g) rfl
      have hs : n + m ≤ 9223372036854775807 := by simp only [maxLen] at h63; omega
      have hr2 := run_append_grow (P := P) w t ty e i z ht hi hz ⟨g, 0, none⟩ n cap xs hown.1 holds a m c news hl hnews (by omega) (by omega) (growslice_fits (by omega) (by subst hby; exact hbytes))
      rw [hr] at hr2
      obtain ⟨rfl, _⟩ := Result.ok.inj hr2
      intro g' hg'
      simp only [Value.ownBlock, Option.some.injEq] at hg'
      exact .inr (Nat.le_of_eq hg')

theorem wpList_append_mine {ops : Array Oper} {rest : List Oper} {o : Oper} {a : Act} {Q : Exit → Act → World → Prop} (hgd : o.guard = none) (s x : Operand) (t : TypeId)
    (ho : o.op = .call { callee := .builtin .append, args := #[s, x], argTypes := #[t, t] })
    (base : Nat) (e : TypeId) (i : TypeInfo) (z : Value) (size bytes : Nat) (ht : P.underlying t = some (.slice e)) (hi : P.info? e = some i) (hz : i.zero = some z)
    (hsize : i.size = size) (hby : i.bytes = bytes) (hzs : z.cells.size = size) (hsz : 0 < size)
    (v : Value) (n : Nat) (xs : List Value) (hs : a.eval s = v) (hown : w.ownsRow base e size v n xs)
    (ad : Addr) (m c : Nat) (news : List Value) (hx : a.eval x = .slice (some ad) m c) (hl : news.length = m * size) (hnews : ∀ j u, news[j]? = some u → w.cell? (ad.add j) = some u) (h1 : ∀ u ∈ news, u.oneCell' = true)
    (h63 : n + m ≤ maxLen) (hbytes : (n + m) * bytes ≤ 140737488355328) (hbase : base ≤ w.heap.size)
    (h : ∀ v' w', w'.ownsRow base e size v' (n + m) (xs ++ news) → Upd (fun b => v.ownBlock = some b) w w' → (∀ g, v'.ownBlock = some g → v.ownBlock = some g ∨ w.heap.size ≤ g) → wpList P ops Q rest (a.put o.dst v') w') :
    wpList P ops Q (o :: rest) a w :=
  wpList_plain hgd fun K hK => by
    obtain ⟨v', w', hr, h2, h3, h4⟩ := run_append_mine (P := P) (w := w) base t o.type e i z size bytes ht hi hz hsize hby hzs hsz v n xs hown ad m c news hl hnews h1 h63 hbytes hbase
    unfold Oper.wp execOp
    simp only [ho, resolve, invoke, builtin, Sem.run_bind, Sem.run_pure, Result.andThen_ok, List.map_toArray, List.map_cons, List.map_nil, hs, hx, hr]
    exact hK _ _ (h v' w' h2 h3 h4)
end
end Go.Proofs.YtnkjnclpakfgnaaGreatDoor
namespace Go.Proofs.YtnkjnclpakfgnaaGreatDoor
open Go.RowKit
theorem below_drewN {n : Nat} {B : Nat} {w : World} : Below B w (w.drewN n) := ⟨rfl, rfl, rfl, Nat.le_refl _, fun _ _ => rfl⟩
section
variable {w w' : World}
theorem keeper (u : Below w.heap.size w w') {a : Addr} {x : Value} (h : w.cell? a = some x) : w'.cell? a = some x := (Upd.same (S := fun _ => False) u).cell h id
theorem below_drew {w wt : World} (h : Below w.drew.heap.size w.drew wt) : Below w.heap.size w wt := ⟨h.os, h.tape, h.output, h.size, h.block⟩
end
def set6 (w : World) (b : Nat) (v0 v1 v2 v3 v4 v5 : Value) : World := (((((w.setCell ⟨b, 0, none⟩ v0).setCell ⟨b, 1, none⟩ v1).setCell ⟨b, 2, none⟩ v2).setCell ⟨b, 3, none⟩ v3).setCell ⟨b, 4, none⟩ v4).setCell ⟨b, 5, none⟩ v5
theorem set6_heap {w : World} {b T : Nat} {z0 z1 z2 z3 z4 z5 : Value} (h : w.heap[b]? = some (.cells #[z0, z1, z2, z3, z4, z5] T (0, 0))) (v0 v1 v2 v3 v4 v5 : Value) :
    (set6 w b v0 v1 v2 v3 v4 v5).heap[b]? = some (.cells #[v0, v1, v2, v3, v4, v5] T (0, 0)) := by
  unfold set6
  rw [block_setCell (block_setCell (block_setCell (block_setCell (block_setCell (block_setCell h v0) v1) v2) v3) v4) v5]; rfl
theorem set6_upd {S : Nat → Prop} {w0 w : World} {b : Nat} (u : Upd S w0 w) (hb : b < w0.heap.size → S b) (v0 v1 v2 v3 v4 v5 : Value) : Upd S w0 (set6 w b v0 v1 v2 v3 v4 v5) :=
  (((((u.setCell (a := ⟨b, 0, none⟩) v0 hb).setCell (a := ⟨b, 1, none⟩) v1 hb).setCell (a := ⟨b, 2, none⟩) v2 hb).setCell (a := ⟨b, 3, none⟩) v3 hb).setCell (a := ⟨b, 4, none⟩) v4 hb).setCell (a := ⟨b, 5, none⟩) v5 hb

end Go.Proofs.YtnkjnclpakfgnaaGreatDoor
