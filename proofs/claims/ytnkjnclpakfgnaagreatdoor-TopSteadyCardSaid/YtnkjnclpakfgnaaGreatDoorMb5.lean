/- ENTRIES OF THE BOOK (book.entry): tuple, visible, alive, dead: what they come to, of any entry in memory. · THE BOOK IN MEMORY (package book): 'BookAt c k w p T I last': at block p of w there lies a book of the tables T and the indexes I; its blocks are k's by c. What entries, taken, table come to. · THE BOOK: taken: is a name, for a snapshot; of any book, any log, any snapshot. · book.right: columns that it takes have kinds 1 to 3. Condition: names of less than 2^62 bytes. · THE BOOK: what is wanted to make a table: New, one, right, Clone, fresh. · THE BOOK: CreateTable: of any book, log, snapshot, name. · Package heap: what a heap is in memory; NewPool, New, Left, page, Pages, told. · Package heap: Get, Page, Stamp, Free. No conditions. -/
import Derived.Test.YtnkjnclpakfgnaaGreatDoorMb2
import Derived.StillTailTactics
import Derived.Test.YtnkjnclpakfgnaaGreatDoorMb4
namespace Go.Proofs.YtnkjnclpakfgnaaGreatDoor
open Go.RowKit

/-- An entry, plainly. -/
structure Ent where
  id : Int
  name : ByteArray
  xmin : Int
  xmax : Int
def EntAt (w : World) (b : Nat) (e : Ent) : Prop :=
  w.cell? ⟨b, 0, none⟩ = some (.int .u64 e.id) ∧ w.cell? ⟨b, 1, none⟩ = some (.string e.name) ∧ w.cell? ⟨b, 2, none⟩ = some (.int .u64 e.xmin) ∧ w.cell? ⟨b, 3, none⟩ = some (.int .u64 e.xmax)
section
variable {c : Nat → Nat} {k p b : Nat} {w w' : World} {f : Int} {L : List Nat} {e : Ent}
theorem EntAt.same (h : EntAt w b e) (u : Below w.heap.size w w') : EntAt w' b e := ⟨keeper u h.1, keeper u h.2.1, keeper u h.2.2.1, keeper u h.2.2.2⟩

end
end Go.Proofs.YtnkjnclpakfgnaaGreatDoor
namespace Go.Proofs.YtnkjnclpakfgnaaGreatDoor
open Go.RowKit

def TabAt (w : World) (t : Nat × Ent × Value × Cols) : Prop :=
  w.heap[t.1]? = some (.cells #[.int .u64 t.2.1.id, .string t.2.1.name, .int .u64 t.2.1.xmin, .int .u64 t.2.1.xmax, t.2.2.1] 284 (0, 0)) ∧ ColsAt w t.2.2.1 t.2.2.2
def IndAt (w : World) (t : Nat × Ent × Int × Int) : Prop :=
  w.heap[t.1]? = some (.cells #[.int .u64 t.2.1.id, .string t.2.1.name, .int .u64 t.2.1.xmin, .int .u64 t.2.1.xmax, .int .u64 t.2.2.1, .int .i64 t.2.2.2] 210 (0, 0))
def ptr (b : Nat) : Value := .pointer (some ⟨b, 0, none⟩)
def ptrs (l : List Nat) : List Value := l.map ptr

structure BookAt (c : Nat → Nat) (k : Nat) (w : World) (p : Nat) (tv iv : Value) (T : List (Nat × Ent × Value × Cols)) (I : List (Nat × Ent × Int × Int)) (last : Int) : Prop where
  blk : w.heap[p]? = some (.cells #[tv, iv, .int .u64 last] 203 (0, 0))
  trow : w.ownsRow 0 204 1 tv T.length (ptrs (T.map (·.1)))
  irow : w.ownsRow 0 206 1 iv I.length (ptrs (I.map (·.1)))
  cp : c p = k
  ct : ∀ g, tv.ownBlock = some g → c g = k
  ci : ∀ g, iv.ownBlock = some g → c g = k
  tabs : ∀ t ∈ T, TabAt w t ∧ c t.1 = k ∧ ∀ g, t.2.2.1.ownBlock = some g → c g = k
  inds : ∀ t ∈ I, IndAt w t ∧ c t.1 = k
  tonce : (T.map (·.1)).Nodup
  ionce : (I.map (·.1)).Nodup
  tlen : T.length ≤ 16
  ilen : I.length ≤ 16
  lo : 0 ≤ last
  hi : last ≤ 1099511627776

section
variable {c : Nat → Nat} {k p : Nat} {w w' : World} {tv iv : Value} {T : List (Nat × Ent × Value × Cols)} {I : List (Nat × Ent × Int × Int)} {last : Int}
theorem BookAt.upd {S : Nat → Prop} (h : BookAt c k w p tv iv T I last) (u : Upd S w w') (hs : ∀ b, c b = k → ¬ S b) : BookAt c k w' p tv iv T I last :=
  ⟨u.heap h.blk (hs p h.cp), ownsRow_upd h.trow u (fun b hb => hs b (h.ct b hb)), ownsRow_upd h.irow u (fun b hb => hs b (h.ci b hb)), h.cp, h.ct, h.ci,
    fun t ht => ⟨⟨u.heap (h.tabs t ht).1.1 (hs _ (h.tabs t ht).2.1), (h.tabs t ht).1.2.upd u (fun b hb => hs b ((h.tabs t ht).2.2 b hb))⟩, (h.tabs t ht).2⟩,
    fun t ht => ⟨u.heap (h.inds t ht).1 (hs _ (h.inds t ht).2), (h.inds t ht).2⟩, h.tonce, h.ionce, h.tlen, h.ilen, h.lo, h.hi⟩
theorem BookAt.same (h : BookAt c k w p tv iv T I last) (u : Below w.heap.size w w') : BookAt c k w' p tv iv T I last := h.upd (S := fun _ => False) (Upd.same u) (fun _ _ x => x)
theorem BookAt.recol {c' : Nat → Nat} (h : BookAt c k w p tv iv T I last) (hc : ∀ b, b < w.heap.size → c' b = c b) : BookAt c' k w p tv iv T I last :=
  ⟨h.blk, h.trow, h.irow, (hc p (lt_of_block h.blk)).trans h.cp, fun g hg => (hc g (World.ownsRow.lt h.trow g hg).2).trans (h.ct g hg), fun g hg => (hc g (World.ownsRow.lt h.irow g hg).2).trans (h.ci g hg),
    fun t ht => ⟨(h.tabs t ht).1, (hc _ (lt_of_block (h.tabs t ht).1.1)).trans (h.tabs t ht).2.1, fun g hg => (hc g (World.ownsRow.lt (h.tabs t ht).1.2.2.2 g hg).2).trans ((h.tabs t ht).2.2 g hg)⟩,
    fun t ht => ⟨(h.inds t ht).1, (hc _ (lt_of_block (h.inds t ht).1)).trans (h.inds t ht).2⟩, h.tonce, h.ionce, h.tlen, h.ilen, h.lo, h.hi⟩
theorem TabAt.ent {t : Nat × Ent × Value × Cols} (h : TabAt w t) : EntAt w t.1 t.2.1 := ⟨cell_of_block h.1 rfl, cell_of_block h.1 rfl, cell_of_block h.1 rfl, cell_of_block h.1 rfl⟩
theorem IndAt.ent {t : Nat × Ent × Int × Int} (h : IndAt w t) : EntAt w t.1 t.2.1 := ⟨cell_of_block h rfl, cell_of_block h rfl, cell_of_block h rfl, cell_of_block h rfl⟩

/-- All entries, with their blocks: the tables, then the indexes. -/
def ents (T : List (Nat × Ent × Value × Cols)) (I : List (Nat × Ent × Int × Int)) : List (Nat × Ent) := (T.map fun t => (t.1, t.2.1)) ++ (I.map fun t => (t.1, t.2.1))
theorem BookAt.ents (h : BookAt c k w p tv iv T I last) : ∀ x ∈ ents T I, EntAt w x.1 x.2 := fun x hx => by
  rcases List.mem_append.1 hx with hx | hx
  · obtain ⟨t, ht, rfl⟩ := List.mem_map.1 hx; exact (h.tabs t ht).1.ent
  · obtain ⟨t, ht, rfl⟩ := List.mem_map.1 hx; exact (h.inds t ht).1.ent

end
end Go.Proofs.YtnkjnclpakfgnaaGreatDoor
namespace Go.Proofs.YtnkjnclpakfgnaaGreatDoor
open Go.RowKit

section
variable {c cl : Nat → Nat} {k kl p pl : Nat} {w w' : World} {tv iv : Value} {T : List (Nat × Ent × Value × Cols)} {I : List (Nat × Ent × Int × Int)} {last : Int} {f : Int} {L : List Nat}

end
end Go.Proofs.YtnkjnclpakfgnaaGreatDoor
namespace Go.Proofs.YtnkjnclpakfgnaaGreatDoor
open Go.RowKit

theorem key9 : KeyKind Tryz.prog 9 (fun s : ByteArray => Value.string s) := keyKind_string Tryz.underlying9
theorem zero4 (w : World) : (zeroValue 4).run Tryz.prog w = .ok (.bool false) w := by kernel_rfl

theorem colC_at (l : Cols) (j : Nat) (h : j < l.length) : (colC l)[j * 2]? = some (.string l[j].1) ∧ (colC l)[j * 2 + 1]? = some (.int .u8 l[j].2) := by
  induction l generalizing j with
  | nil => simp at h
  | cons x l ih =>
    cases j with
    | zero => exact ⟨rfl, rfl⟩
    | succ j =>
      have := ih j (by simpa using h)
      simpa [colC, Nat.succ_mul, Nat.add_assoc] using this

end Go.Proofs.YtnkjnclpakfgnaaGreatDoor
namespace Go.Proofs.YtnkjnclpakfgnaaGreatDoor
open Go.RowKit

section
variable {c cl : Nat → Nat} {k kl p pl : Nat} {w w' : World} {tv iv cv : Value} {T : List (Nat × Ent × Value × Cols)} {I : List (Nat × Ent × Int × Int)} {last : Int} {f : Int} {L : List Nat}

end
end Go.Proofs.YtnkjnclpakfgnaaGreatDoor
namespace Go.Proofs.YtnkjnclpakfgnaaGreatDoor
open Go.RowKit

theorem row_block {w : World} {base e size n : Nat} {v : Value} {xs : List Value} (h : w.ownsRow base e size v n xs) {g : Nat} (hg : v.ownBlock = some g) : ∃ cur, w.heap[g]? = some (.cells cur e (0, 0)) := by
  rcases h.2 with ⟨rfl, _⟩ | ⟨g1, cap1, cur1, rfl, _, k1, _⟩
  · cases hg
  · simp only [Value.ownBlock, Option.some.injEq] at hg
    subst hg
    exact ⟨cur1, k1⟩
theorem block_ne {w : World} {b b' T T' : Nat} {x y : Array Value} {f f' : Nat × Nat} (h : w.heap[b]? = some (.cells x T f)) (h' : w.heap[b']? = some (.cells y T' f')) (hT : T ≠ T') : b ≠ b' := fun e => by
  subst e
  rw [h] at h'
  simp at h'
  exact hT h'.2.1

theorem rows_apart {w : World} {b1 b2 e1 e2 s1 s2 n1 n2 : Nat} {v1 v2 : Value} {xs1 xs2 : List Value} (h1 : w.ownsRow b1 e1 s1 v1 n1 xs1) (h2 : w.ownsRow b2 e2 s2 v2 n2 xs2) (he : e1 ≠ e2) :
    ∀ g, v1.ownBlock = some g → v2.ownBlock ≠ some g := by
  intro g hg hg2
  rcases h1.2 with ⟨rfl, _⟩ | ⟨g1, cap1, cur1, rfl, _, k1, _⟩
  · cases hg
  · rcases h2.2 with ⟨rfl, _⟩ | ⟨g2, cap2, cur2, rfl, _, k2, _⟩
    · cases hg2
    · simp only [Value.ownBlock, Option.some.injEq] at hg hg2
      subst hg
      subst hg2
      rw [k1] at k2
      simp at k2
      exact he k2.2

theorem news_block {w : World} {b : Nat} {cs : List Value} {t : TypeId} {fz : Nat × Nat} (h : w.heap[b]? = some (.cells cs.toArray t fz)) (j : Nat) (u : Value) (hj : cs[j]? = some u) : w.cell? ((⟨b, 0, none⟩ : Addr).add j) = some u := by
  have : (⟨b, 0, none⟩ : Addr).add j = ⟨b, j, none⟩ := by simp [Addr.add]; exact fun h => h.symm
  rw [this]
  exact cell_of_block h (by simpa using hj)

section
variable {c cl : Nat → Nat} {k kl p pl : Nat} {w w' : World} {tv iv cv : Value} {cols : Cols} {T : List (Nat × Ent × Value × Cols)} {I : List (Nat × Ent × Int × Int)} {last : Int} {f : Int} {L : List Nat}

/-- A step that writes the tables' slice and the book's own block alone. -/
theorem BookAt.grow (h : BookAt c k w p tv iv T I last) {v' cv : Value} {e : Ent} {bt : Nat} (hT : T.length < 16)
    (u : Upd (fun b => b = p ∨ tv.ownBlock = some b) w w') (hblk : w'.heap[p]? = some (.cells #[v', iv, .int .u64 last] 203 (0, 0)))
    (hrow : w'.ownsRow 0 204 1 v' (T.length + 1) (ptrs (T.map (·.1)) ++ [.pointer (some ⟨bt, 0, none⟩)])) (hv' : ∀ g, v'.ownBlock = some g → c g = k)
    (ht : TabAt w' (bt, e, cv, cols)) (hbt : c bt = k) (hcv : ∀ g, cv.ownBlock = some g → c g = k) (hnew : ∀ t ∈ T, t.1 ≠ bt) :
    BookAt c k w' p v' iv (T ++ [(bt, e, cv, cols)]) I last := by
  have hb := h.blk
  have ne1 : ∀ g, iv.ownBlock = some g → ¬ (g = p ∨ tv.ownBlock = some g) := fun g hg e => by
    obtain ⟨cu, k1⟩ := row_block h.irow hg
    rcases e with e | e
    · exact block_ne k1 hb (by decide) e
    · exact rows_apart h.irow h.trow (by decide) g hg e
  have ne2 : ∀ {b X : Nat} {x : Array Value}, w.heap[b]? = some (.cells x X (0, 0)) → X ≠ 203 → X ≠ 204 → ¬ (b = p ∨ tv.ownBlock = some b) := fun hx h1 h2 e => by
    rcases e with e | e
    · exact block_ne hx hb h1 e
    · obtain ⟨cu, k1⟩ := row_block h.trow e
      exact block_ne hx k1 h2 rfl
  refine ⟨hblk, ?_, ownsRow_upd h.irow u ne1, h.cp, hv', h.ci, fun t hm => ?_, fun t hm => ⟨u.heap (h.inds t hm).1 (ne2 (h.inds t hm).1 (by decide) (by decide)), (h.inds t hm).2⟩, ?_, h.ionce, by simp; omega, h.ilen, h.lo, h.hi⟩
  · rw [List.length_append, List.map_append]
    simpa [ptrs, ptr] using hrow
  · rcases List.mem_append.1 hm with hm | hm
    · refine ⟨⟨u.heap (h.tabs t hm).1.1 (ne2 (h.tabs t hm).1.1 (by decide) (by decide)), (h.tabs t hm).1.2.upd u (fun b e1 => ?_)⟩, (h.tabs t hm).2⟩
      obtain ⟨cu, k1⟩ := row_block (h.tabs t hm).1.2.2.2 e1
      exact ne2 k1 (by decide) (by decide)
    · obtain rfl := List.mem_singleton.1 hm
      exact ⟨ht, hbt, hcv⟩
  · rw [List.map_append, List.nodup_append]
    refine ⟨h.tonce, by simp, fun a ha b hb2 e => ?_⟩
    obtain ⟨t, hmt, rfl⟩ := List.mem_map.1 ha
    have hbb : b = bt := by simpa using hb2
    exact hnew t hmt (e.trans hbb)

end
end Go.Proofs.YtnkjnclpakfgnaaGreatDoor
namespace Go.Proofs.YtnkjnclpakfgnaaGreatDoor
open Go.RowKit
set_option maxRecDepth 100000

abbrev PgS := Nat × List (Option Ver)
def PoolAt (w : World) (p : Nat) (left : Nat) : Prop := left ≤ 256 ∧ w.heap[p]? = some (.cells #[.int .i64 (left : Int)] 224 (0, 0))
structure HeapR (c : Nat → Nat) (k : Nat) (w : World) (h pool : Nat) (lv : Value) (rm : Nat) (P : List PgS) (rs : List Int) : Prop where
 blk : w.heap[h]? = some (.cells #[.pointer (some ⟨pool, 0, none⟩), lv, .pointer (some ⟨rm, 0, none⟩)] 243 (0, 0))
 row : w.ownsRow 0 217 1 lv P.length (ptrs (P.map (·.1)))
 room : RoomAt w rm rs
 pages : ∀ x ∈ P, (∃ f, Pg w x.1 f ∧ PageIs f x.2) ∧ c x.1 = k
 once : (P.map (·.1)).Nodup
 ch : c h = k
 cr : c rm = k
 cl : ∀ g, lv.ownBlock = some g → c g = k
/-- A heap: what is told of each page's room is so. -/
abbrev HeapAt (c : Nat → Nat) (k : Nat) (w : World) (h pool : Nat) (lv : Value) (rm : Nat) (P : List PgS) : Prop := HeapR c k w h pool lv rm P (P.map fun x => roomS x.2)
section
variable {c : Nat → Nat} {k h pool rm : Nat} {w w' : World} {lv : Value} {P : List PgS} {left : Nat} {rs : List Int}
theorem PoolAt.upd {S : Nat → Prop} (q : PoolAt w pool left) (u : Upd S w w') (hs : ¬ S pool) : PoolAt w' pool left := ⟨q.1, u.heap q.2 hs⟩
theorem HeapR.upd {S : Nat → Prop} (q : HeapR c k w h pool lv rm P rs) (u : Upd S w w') (hs : ∀ b, c b = k → ¬ S b) : HeapR c k w' h pool lv rm P rs :=
 ⟨u.heap q.blk (hs _ q.ch), ownsRow_upd q.row u (fun b hb => hs b (q.cl b hb)), q.room.upd u (hs _ q.cr), fun x hx => by
   obtain ⟨⟨f, h1, h2⟩, h3⟩ := q.pages x hx
   exact ⟨⟨f, By.upd h1 u (hs _ h3), h2⟩, h3⟩, q.once, q.ch, q.cr, q.cl⟩
theorem HeapR.same (q : HeapR c k w h pool lv rm P rs) (u : Below w.heap.size w w') : HeapR c k w' h pool lv rm P rs := q.upd (S := fun _ => False) (Upd.same u) (fun _ _ x => x)
theorem HeapR.drewN (q : HeapR c k w h pool lv rm P rs) (n : Nat) : HeapR c k (w.drewN n) h pool lv rm P rs := q.upd (S := fun _ => False) (Upd.of_drewN n) (fun _ _ x => x)
theorem HeapAt.len (q : HeapAt c k w h pool lv rm P) : P.length ≤ 256 := by have := q.room.len; simpa using this
theorem HeapR.recol {c' : Nat → Nat} (q : HeapR c k w h pool lv rm P rs) (hc : ∀ b, b < w.heap.size → c' b = c b) : HeapR c' k w h pool lv rm P rs :=
 ⟨q.blk, q.row, q.room, fun x hx => by
   obtain ⟨⟨f, h1, h2⟩, h3⟩ := q.pages x hx
   exact ⟨⟨f, h1, h2⟩, by rw [hc _ (By.lt h1)]; exact h3⟩, q.once, by rw [hc _ (lt_of_block q.blk)]; exact q.ch, by rw [hc _ q.room.lt]; exact q.cr, fun g hg => by rw [hc _ (World.ownsRow.lt q.row g hg).2]; exact q.cl g hg⟩

theorem newpool_at (n : Int) (h0 : 0 ≤ n) (h1 : n ≤ 256) (w : World) : Calls Tryz.prog 59 #[.int .i64 n] w fun e w' => e = .returned (.tuple #[.pointer (some ⟨w.heap.size, 0, none⟩), .int .i64 0]) ∧ PoolAt w' w.heap.size n.toNat ∧ Below w.heap.size w w' := by
 have d1 : decide (n < 0) = false := by simp; omega
 have d2 : decide (256 < n) = false := by simp; omega
 have hP : PoolAt (w.alloc (.cells #[.int .i64 n] 224)) w.heap.size n.toNat := ⟨by omega, by rw [show ((n.toNat : Nat) : Int) = n by omega]; exact heap_new1 w _⟩
 have HP := Lib.hid hP
 clear hP
 go_enter Tryz.func59, Tryz.ntmps59
 go_wp2_with fail
 go_ret2
 exact ⟨rfl, HP.out, (Below.refl _ _).alloc (Nat.le_refl _) _⟩

theorem left_at (q : PoolAt w pool left) : Calls Tryz.prog 378 #[.pointer (some ⟨pool, 0, none⟩)] w fun e w' => e = .returned (.int .i64 (left : Int)) ∧ w' = w := by
 have c0 := cell_of_block q.2 (i := 0) rfl
 clear q
 go_enter Tryz.func378, Tryz.ntmps378
 go_wp2_with fail
 go_ret
 exact ⟨rfl, rfl⟩

theorem hnew_at (w : World) (c : Nat → Nat) (k pool : Nat) : Calls Tryz.prog 176 #[.pointer (some ⟨pool, 0, none⟩)] w fun e w' => ∃ h, e = .returned (.pointer (some ⟨h, 0, none⟩)) ∧ w.heap.size ≤ h ∧ (∃ lv rm, HeapAt (col c w.heap.size k) k w' h pool lv rm []) ∧ Below w.heap.size w w' := by
 have H := Lib.hid (rnew_at w)
 go_enter Tryz.func176, Tryz.ntmps176
 go_wp2_with fail
 (with_reducible refine H.out.mono ?_)
 rintro r w1 ⟨rfl, hr, hk⟩
 go_wp2_with fail
 go_ret
 refine ⟨_, rfl, hk.size, ⟨_, _, heap_new1 w1 _, World.ownsRow_nil _ _ _ _, ?_, (fun x hx => by cases hx), List.Pairwise.nil, col_new hk.size, col_new (Nat.le_refl _), (fun g hg => by cases hg)⟩, hk.trans ((Below.refl _ _).alloc hk.size _)⟩
 exact hr.upd (S := fun _ => False) (Upd.same ((Below.refl _ _).alloc (Nat.le_refl _) _)) id

/-- A page's pointer, where there is one. -/
theorem HeapR.pptr (q : HeapR c k w h pool lv rm P rs) {n : Nat} {x : PgS} (hn : P[n]? = some x) : ∃ g cap, lv = .slice (some ⟨g, 0, none⟩) P.length cap ∧ w.cell? ⟨g, n, none⟩ = some (.pointer (some ⟨x.1, 0, none⟩)) := by
 obtain ⟨g, cap, e, c1, _⟩ := ownsRow_cell1 q.row (j := n) (u := .pointer (some ⟨x.1, 0, none⟩)) (by simp [ptrs, ptr, hn])
 exact ⟨g, cap, e, c1⟩
theorem hpage_at (q : HeapR c k w h pool lv rm P rs) (_hL : P.length ≤ 256) {n : Nat} {x : PgS} (hn : P[n]? = some x) : Calls Tryz.prog 88 #[.pointer (some ⟨h, 0, none⟩), .int .i64 (n : Int)] w fun e w' => e = .returned (.pointer (some ⟨x.1, 0, none⟩)) ∧ w' = w := by
 obtain ⟨g, cap, rfl, c1⟩ := q.pptr hn
 have c0 := cell_of_block q.blk (i := 1) rfl
 have hl := (List.getElem?_eq_some_iff.1 hn).1
 have d1 : decide ((n : Int) < 0) = false := by simp
 have d2 : decide ((P.length : Int) ≤ (n : Int)) = false := by simp; omega
 clear q hn
 go_enter Tryz.func88, Tryz.ntmps88
 go_wp2_with fail
 go_ret
 exact ⟨rfl, rfl⟩
theorem hpages_at (q : HeapR c k w h pool lv rm P rs) : Calls Tryz.prog 76 #[.pointer (some ⟨h, 0, none⟩)] w fun e w' => e = .returned (.int .i64 (P.length : Int)) ∧ w' = w := by
 have c0 := cell_of_block q.blk (i := 1) rfl
 obtain ⟨a, cap, rfl⟩ := ownsRow_slice q.row
 clear q
 go_enter Tryz.func76, Tryz.ntmps76
 go_wp2_with fail
 go_ret
 exact ⟨rfl, rfl⟩

set_option maxHeartbeats 1000000 in
/-- told: what is told of a page is so again. -/
theorem htold_at (q : HeapR c k w h pool lv rm P rs) {n : Nat} {x : PgS} (hn : P[n]? = some x) (hr : n ≤ rs.length) (hL : P.length ≤ 256) :
    Calls Tryz.prog 147 #[.pointer (some ⟨h, 0, none⟩), .int .i64 (n : Int)] w fun e w' => e = .returned (.tuple #[]) ∧ HeapR c k w' h pool lv rm P (setR rs n (roomS x.2)) ∧ Upd (fun b => b = rm) w w' := by
 obtain ⟨g, cap, rfl, c1⟩ := q.pptr hn
 have c0 := cell_of_block q.blk (i := 1) rfl
 have c2 := cell_of_block q.blk (i := 2) rfl
 have hl := (List.getElem?_eq_some_iff.1 hn).1
 obtain ⟨⟨f, h1, h2⟩, _⟩ := q.pages x (List.mem_of_getElem? hn)
 have hrm : ∀ w', Below w.heap.size w w' → Calls Tryz.prog 229 #[.pointer (some ⟨x.1, 0, none⟩)] w' fun e w'' => e = .returned (.int .i64 (roomS x.2)) ∧ Below w'.heap.size w' w'' := fun w' hb => (room_at (By.same h1 hb) h2).mono fun e w'' ⟨a, m, b⟩ => ⟨a, by rw [b]; exact below_drewN⟩
 have hb : -1 ≤ roomS x.2 ∧ roomS x.2 ≤ 512 := by unfold roomS; split <;> omega
 have hset : ∀ w', Below w.heap.size w w' → Calls Tryz.prog 228 #[.pointer (some ⟨rm, 0, none⟩), .int .i64 (n : Int), .int .i64 (roomS x.2)] w' _ := fun w' hb' => rset_at (q.room.upd (S := fun _ => False) (Upd.same hb') id) n (roomS x.2) hr (by omega) hb.1 hb.2
 have hne1 : h ≠ rm := by obtain ⟨t, hm, _⟩ := q.room; exact block_ne q.blk hm (by decide)
 have hne2 : g ≠ rm := by obtain ⟨t, hm, _⟩ := q.room; obtain ⟨cu, k1⟩ := row_block q.row rfl; exact block_ne k1 hm (by decide)
 have hne3 : ∀ y ∈ P, y.1 ≠ rm := fun y hy => by obtain ⟨t, hm, _⟩ := q.room; obtain ⟨⟨f', hf', _⟩, _⟩ := q.pages y hy; exact block_ne hf'.2 hm (by decide)
 have hfin : ∀ w' w'' rs', Below w.heap.size w w' → Upd (fun b => b = rm) w' w'' → RoomAt w'' rm rs' → HeapR c k w'' h pool (.slice (some ⟨g, 0, none⟩) P.length cap) rm P rs' := fun w' w'' rs' hb hu hR => by
  have q' := q.same hb
  exact ⟨hu.heap q'.blk hne1, ownsRow_upd q'.row hu (fun b hb => by cases hb; exact hne2), hR, fun y hy => by
   obtain ⟨⟨f', p1, p2⟩, p3⟩ := q'.pages y hy
   exact ⟨⟨f', By.upd p1 hu (hne3 y hy), p2⟩, p3⟩, q.once, q.ch, q.cr, q.cl⟩
 obtain ⟨R, hR⟩ : ∃ R, R = roomS x.2 := ⟨_, rfl⟩
 rw [← hR] at hrm hset ⊢
 have HRM := Lib.hid hrm; have HSET := Lib.hid hset; have HFIN := Lib.hid hfin; have N1 := Lib.hid hne1; have N2 := Lib.hid hne2
 have hnl : (n : Int) < P.length := by omega
 have hn0 : (0 : Int) ≤ n := by omega
 have hb0 : Below w.heap.size w w.drew := ⟨rfl, rfl, rfl, Nat.le_refl _, fun _ _ => rfl⟩
 have k0 : w.drew.cell? ⟨h, 1, none⟩ = some (.slice (some ⟨g, 0, none⟩) P.length cap) := c0
 have k1 : w.drew.cell? ⟨h, 2, none⟩ = some (.pointer (some ⟨rm, 0, none⟩)) := c2
 have k2 : w.drew.cell? ⟨g, n, none⟩ = some (.pointer (some ⟨x.1, 0, none⟩)) := c1
 have K0 := Lib.hid k0; have K1 := Lib.hid k1; have K2 := Lib.hid k2
 clear hrm hset hR hb h1 h2 q hn hr hfin hne1 hne2 hne3 c0 c1 c2
 go_enter Tryz.func147, Tryz.ntmps147
 go_region_held3 (fun z => z.cell? ⟨h, 1, none⟩ = some (.slice (some ⟨g, 0, none⟩) P.length cap) ∧ z.cell? ⟨h, 2, none⟩ = some (.pointer (some ⟨rm, 0, none⟩)) ∧ z.cell? ⟨g, n, none⟩ = some (.pointer (some ⟨x.1, 0, none⟩)))
  (first | (with_reducible exact ⟨u2.cell (keeper h11 K0.out) N1.out, u2.cell (keeper h11 K1.out) N1.out, u2.cell (keeper h11 K2.out) N2.out⟩) | (with_reducible exact ⟨keeper h11 K0.out, keeper h11 K1.out, keeper h11 K2.out⟩) | (with_reducible exact ⟨k0, k1, k2⟩))
  (first | (have _h := h11; go_at_call 228; (with_reducible refine (HSET.out _ hb1).mono ?_); rintro r wb ⟨rfl, x2, u2⟩) | (go_at_call 229; (with_reducible refine (HRM.out _ hb0).mono ?_); rintro r wa ⟨rfl, h11⟩; have hb1 := hb0.trans (h11.mono hb0.size)))
 go_wp2_with fail
 go_end0
 exact ⟨rfl, HFIN.out _ _ _ hb1 u2 x2, (Upd.same hb1).trans u2⟩
end
end Go.Proofs.YtnkjnclpakfgnaaGreatDoor
namespace Go.Proofs.YtnkjnclpakfgnaaGreatDoor
open Go.RowKit
set_option maxRecDepth 100000
section
variable {c : Nat → Nat} {k h pool rm : Nat} {w w' : World} {lv : Value} {P : List PgS} {left : Nat} {rs : List Int}

/-- What lies at a place. -/
def At (P : List PgS) (n i : Nat) (v : Ver) : Prop := ∃ x, P[n]? = some x ∧ x.2[i]? = some (some v)

set_option maxHeartbeats 2000000 in
theorem hget_at (q : HeapR c k w h pool lv rm P rs) (hL : P.length ≤ 256) {n i : Nat} {v : Ver} (hv : At P n i v) :
    Calls Tryz.prog 55 #[.pointer (some ⟨h, 0, none⟩), .agg #[.int .i64 (n : Int), .int .i64 (i : Int)]] w fun e w' => ∃ d, e = .returned (.tuple #[verT v d, .bool true]) ∧ Bs w' d v.data ∧ (∀ g, d.ownBlock = some g → w.heap.size ≤ g) ∧ Below w.heap.size w w' := by
 obtain ⟨x, hn, hi⟩ := hv
 obtain ⟨⟨f, h1, h2⟩, _⟩ := q.pages x (List.mem_of_getElem? hn)
 obtain ⟨wz, hwz⟩ : ∃ wz, wz = (w.alloc (.cells #[.int .i64 (n : Int), .int .i64 (i : Int)] 124)).alloc (.cells #[.int .u64 0, .int .u64 0, .int .u64 0, .int .i64 0, .int .i64 0, .slice none 0 0] 147) := ⟨_, rfl⟩
 obtain ⟨t, ht⟩ : ∃ t, t = w.heap.size := ⟨_, rfl⟩
 have hal : Below w.heap.size w wz := by subst hwz; exact ((Below.refl _ _).alloc (Nat.le_refl _) _).alloc (by simp) _
 have hT0 : wz.heap[t]? = some (.cells #[.int .i64 (n : Int), .int .i64 (i : Int)] 124 (0, 0)) := by subst hwz; subst ht; exact block_alloc (heap_new1 w _) _
 have hT1 : wz.heap[t + 1]? = some (.cells #[.int .u64 0, .int .u64 0, .int .u64 0, .int .i64 0, .int .i64 0, .slice none 0 0] 147 (0, 0)) := by
  subst hwz; subst ht
  have := heap_new1 (w.alloc (.cells #[.int .i64 (n : Int), .int .i64 (i : Int)] 124)) (.cells #[.int .u64 0, .int .u64 0, .int .u64 0, .int .i64 0, .int .i64 0, .slice none 0 0] 147)
  simpa using this
 have hpg : ∀ w', Below wz.heap.size wz w' → Calls Tryz.prog 88 #[.pointer (some ⟨h, 0, none⟩), .int .i64 (n : Int)] w' _ := fun w' hb => hpage_at ((q.same hal).same hb) hL hn
 have hge : ∀ w', Below wz.heap.size wz w' → Calls Tryz.prog 89 #[.pointer (some ⟨x.1, 0, none⟩), .int .i64 (i : Int)] w' _ := fun w' hb => get_some (By.same (By.same h1 hal) hb) h2 i hi
 have HPG := Lib.hid hpg; have HGE := Lib.hid hge; have HT := Lib.hid ht; have HWZ := Lib.hid hwz; have HT1 := Lib.hid hT1
 have hb0 : Below wz.heap.size wz wz.drew := ⟨rfl, rfl, rfl, Nat.le_refl _, fun _ _ => rfl⟩
 have k0 : wz.drew.cell? ⟨t, 0, none⟩ = some (.int .i64 (n : Int)) := cell_of_block hT0 rfl
 have k1 : wz.drew.cell? ⟨t, 1, none⟩ = some (.int .i64 (i : Int)) := cell_of_block hT0 rfl
 have K0 := Lib.hid k0; have K1 := Lib.hid k1
 have htt : ¬ t = t + 1 := by omega
 have hwl : t < wz.heap.size := lt_of_block hT0
 clear hpg hge ht hwz hT0 hT1 hn hi h1 h2 q
 go_enter Tryz.func55, Tryz.ntmps55
 go_wp2_with fail
 rw [← HWZ.out, ← HT.out]
 go_region_held3 (fun z => z.cell? ⟨t, 0, none⟩ = some (.int .i64 (n : Int)) ∧ z.cell? ⟨t, 1, none⟩ = some (.int .i64 (i : Int)))
  (first | (with_reducible exact ⟨keeper x3 K0.out, keeper x3 K1.out⟩) | (with_reducible exact ⟨k0, k1⟩) | exact ⟨hU6.cell (keeper x3 K0.out) htt, hU6.cell (keeper x3 K1.out) htt⟩)
  (first | (go_at_call 88; (with_reducible refine (HPG.out _ hb0).mono ?_); rintro r wa ⟨rfl, rfl⟩) | (go_at_call 89; (with_reducible refine (HGE.out _ hb0).mono ?_); rintro r wb ⟨d, rfl, x1, x2, x3⟩; have X1 := Lib.hid x1; have X2 := Lib.hid x2; obtain ⟨_, _, xb, xo, xc, rfl, _, _⟩ := x1; clear x2; have hH1 := (Upd.same (S := fun _ => False) x3).heap HT1.out id; have z0 : wb.cell? ⟨t + 1, 0, none⟩ = some (.int .u64 0) := cell_of_block hH1 rfl; have y0 : wb.frozen? ⟨t + 1, 0, none⟩ = false := free_of_block hH1; have z1 : wb.cell? ⟨t + 1, 1, none⟩ = some (.int .u64 0) := cell_of_block hH1 rfl; have y1 : wb.frozen? ⟨t + 1, 1, none⟩ = false := free_of_block hH1; have z2 : wb.cell? ⟨t + 1, 2, none⟩ = some (.int .u64 0) := cell_of_block hH1 rfl; have y2 : wb.frozen? ⟨t + 1, 2, none⟩ = false := free_of_block hH1; have z3 : wb.cell? ⟨t + 1, 3, none⟩ = some (.int .i64 0) := cell_of_block hH1 rfl; have y3 : wb.frozen? ⟨t + 1, 3, none⟩ = false := free_of_block hH1; have z4 : wb.cell? ⟨t + 1, 4, none⟩ = some (.int .i64 0) := cell_of_block hH1 rfl; have y4 : wb.frozen? ⟨t + 1, 4, none⟩ = false := free_of_block hH1; have z5 : wb.cell? ⟨t + 1, 5, none⟩ = some (.slice none 0 0) := cell_of_block hH1 rfl; have y5 : wb.frozen? ⟨t + 1, 5, none⟩ = false := free_of_block hH1; unfold verT tup; have hU6 := set6_upd (Upd.refl (fun g => g = t + 1) wb) (b := t + 1) (fun _ => rfl) (.int .u64 v.row) (.int .u64 v.xmin) (.int .u64 v.xmax) (.int .i64 v.pg) (.int .i64 v.sl) (.slice (some ⟨xb, xo, none⟩) v.data.length xc)))
 have hH6 := set6_heap hH1 (.int .u64 v.row) (.int .u64 v.xmin) (.int .u64 v.xmax) (.int .i64 v.pg) (.int .i64 v.sl) (.slice (some ⟨xb, xo, none⟩) v.data.length xc)
 have j0 := cell_of_block hH6 (i := 0) rfl; have j1 := cell_of_block hH6 (i := 1) rfl; have j2 := cell_of_block hH6 (i := 2) rfl; have j3 := cell_of_block hH6 (i := 3) rfl; have j4 := cell_of_block hH6 (i := 4) rfl; have j5 := cell_of_block hH6 (i := 5) rfl
 have hb1 : Below wz.heap.size wz wb := hb0.trans x3
 have hbw : Below w.heap.size w (set6 wb (t + 1) (.int .u64 v.row) (.int .u64 v.xmin) (.int .u64 v.xmax) (.int .i64 v.pg) (.int .i64 v.sl) (.slice (some ⟨xb, xo, none⟩) v.data.length xc)) := hal.trans ((hb1.mono hal.size).trans (hU6.below (Nat.le_trans hal.size hb1.size) (fun g hg e => by have := HT.out; omega)))
 have hbx : Bs (set6 wb (t + 1) (.int .u64 v.row) (.int .u64 v.xmin) (.int .u64 v.xmax) (.int .i64 v.pg) (.int .i64 v.sl) (.slice (some ⟨xb, xo, none⟩) v.data.length xc)) (.slice (some ⟨xb, xo, none⟩) v.data.length xc) v.data := X1.out.upd hU6 (fun b' o' n' c' e => by cases e; have h4 := X2.out xb rfl; have h5 : wz.heap.size ≤ xb := h4; have h6 : t + 1 < wz.heap.size := lt_of_block HT1.out; omega)
 clear z0 y0 z1 y1 z2 y2 z3 y3 z4 y4 z5 y5
 change Exit.then _ _ _ _ (set6 wb (t + 1) (.int .u64 v.row) (.int .u64 v.xmin) (.int .u64 v.xmax) (.int .i64 v.pg) (.int .i64 v.sl) (.slice (some ⟨xb, xo, none⟩) v.data.length xc))
 generalize (set6 wb (t + 1) (.int .u64 v.row) (.int .u64 v.xmin) (.int .u64 v.xmax) (.int .i64 v.pg) (.int .i64 v.sl) (.slice (some ⟨xb, xo, none⟩) v.data.length xc)) = w6 at *
 go_wp2_with fail
 exact bodyPost_ret (v := .tuple #[verT v (.slice (some ⟨xb, xo, none⟩) v.data.length xc), .bool true]) (by simp [results, Tryz.results55, go_sem, tup, verT, j0, j1, j2, j3, j4, j5]) rfl ⟨_, rfl, hbx, fun g hg => Nat.le_trans hal.size (X2.out g hg), hbw⟩

theorem Tryz.info124 : (Tryz.prog.info? 124).map (fun i => (i.zero, i.size, i.bytes)) = some (some (.agg #[.int .i64 0, .int .i64 0]), 2, 16) := by kernel_rfl
/-- Places as they stand in a slice. -/
def tids (l : List (Nat × Nat)) : List Value := l.flatMap fun x => [Value.int .i64 (x.1 : Int), .int .i64 (x.2 : Int)]
theorem tids_length (l : List (Nat × Nat)) : (tids l).length = l.length * 2 := by
 induction l with
 | nil => rfl
 | cons a l ih => simp only [tids, List.flatMap_cons, List.length_append, List.length_cons, List.length_nil] at ih ⊢; omega
theorem tids_snoc (l : List (Nat × Nat)) (x : Nat × Nat) : tids (l ++ [x]) = tids l ++ [Value.int .i64 (x.1 : Int), .int .i64 (x.2 : Int)] := by simp [tids]
/-- The places of a page's versions, of its first m slots. -/
def placeTo (n : Nat) (S : List (Option Ver)) (m : Nat) : List (Nat × Nat) := ((List.range m).filter fun i => (S.getD i none).isSome).map fun i => (n, i)
theorem placeTo_succ (n : Nat) (S : List (Option Ver)) (m : Nat) : placeTo n S (m + 1) = placeTo n S m ++ if (S.getD m none).isSome then [(n, m)] else [] := by
 unfold placeTo
 rw [List.range_succ, List.filter_append, List.map_append]
 congr 1
 by_cases h : (S.getD m none).isSome = true
 · rw [if_pos h, List.filter_cons, if_pos h]; rfl
 · rw [if_neg h, List.filter_cons, if_neg h]; rfl
theorem placeTo_le (n : Nat) (S : List (Option Ver)) (m : Nat) : (placeTo n S m).length ≤ m := by
 unfold placeTo; rw [List.length_map]; exact Nat.le_trans (List.length_filter_le _ _) (by simp)

set_option maxHeartbeats 2000000 in
theorem hplaces_at (q : HeapR c k w h pool lv rm P rs) (hL : P.length ≤ 256) {n : Nat} {x : PgS} (hn : P[n]? = some x) :
    Calls Tryz.prog 77 #[.pointer (some ⟨h, 0, none⟩), .int .i64 (n : Int)] w fun e w' => ∃ v, e = .returned v ∧ w'.ownsRow w.heap.size 124 2 v (placeTo n x.2 x.2.length).length (tids (placeTo n x.2 x.2.length)) ∧ Below w.heap.size w w' ∧ (placeTo n x.2 x.2.length = [] → v = .slice none 0 0) := by
 obtain ⟨i0, hi0, hz0, hz1, hz2⟩ := info_parts Tryz.info124
 obtain ⟨⟨f, h1, h2⟩, _⟩ := q.pages x (List.mem_of_getElem? hn)
 have hlen := h2.len
 have hpg := hpage_at q hL hn
 have hsl := slots_at h1
 rw [h2.cnt] at hsl
 have hP : P.length ≤ 256 := hL
 have hnl := (List.getElem?_eq_some_iff.1 hn).1
 obtain ⟨b, S⟩ := x
 simp only at hpg hsl hlen h1 h2 ⊢
 have HPG := Lib.hid hpg; have HSL := Lib.hid hsl; have H1 := Lib.hid h1; have H2 := Lib.hid h2
 clear hpg hsl h1 h2 hn q
 go_enter Tryz.func77, Tryz.ntmps77
 go_wp2_with (first | (go_at_call 88; (with_reducible refine (flp HPG.out).mono ?_); rintro e w1 ⟨rfl, rfl⟩) | (go_at_call 105; (with_reducible refine (flp HSL.out).mono ?_); rintro e w1 ⟨rfl, rfl⟩))
 go_loopw [5, 15] (fun v iv wr => ∃ m : Nat, m ≤ S.length ∧ iv = .int .i64 (m : Int) ∧ wr.ownsRow w.heap.size 124 2 v (placeTo n S m).length (tids (placeTo n S m)) ∧ Below w.heap.size w wr ∧ (placeTo n S m = [] → v = .slice none 0 0)) (fun _ iv _ => S.length - (intOf iv).toNat)
 case atStart => exact ⟨0, Nat.zero_le _, rfl, World.ownsRow_nil _ _ _ _, Below.refl _ _, fun _ => rfl⟩
 case round =>
  obtain ⟨m, hm, rfl, hown, hB, hnil⟩ := hrel
  have HNIL := Lib.hid hnil; clear hnil
  have HOWN := Lib.hid hown; clear hown
  have hsu := placeTo_succ n S m
  have HSU := Lib.hid hsu; clear hsu
  have hle := placeTo_le n S m
  by_cases hlt : m < S.length
  · obtain ⟨y, hy⟩ : ∃ y, S[m]? = some y := ⟨S[m], List.getElem?_eq_getElem hlt⟩
    have hgd : S.getD m none = y := by rw [List.getD_eq_getElem?_getD, hy]; rfl
    have HGD := Lib.hid hgd
    have hby := By.same H1.out hB
    have HB := Lib.hid hB
    cases y with
    | none =>
     have hge := get_none hby H2.out (i := (m : Int)) (.inr (.inr ⟨m, rfl, hy⟩)) ⟨by omega, by omega⟩
     have HGE := Lib.hid hge
     unfold tup at HGE
     clear hge hby hgd hy hB
     go_wp2_with (go_at_call 89; (with_reducible refine HGE.out.mono ?_); rintro e w1 ⟨rfl, hk1⟩)
     go_roundw
     case rel =>
      refine ⟨m + 1, by omega, by go_num, ?_, HB.out.trans ((hk1.mono HB.out.size).trans ((Below.refl _ _).alloc (Nat.le_trans HB.out.size hk1.size) _)), ?_⟩
      · rw [HSU.out, HGD.out]
        simp only [Option.isSome_none, Bool.false_eq_true, if_false, List.append_nil]
        exact World.ownsRow.alloc (ownsRow_upd (S := fun _ => False) HOWN.out (Upd.same hk1) (fun _ _ x => x)) _
      · rw [HSU.out, HGD.out]
        simp only [Option.isSome_none, Bool.false_eq_true, if_false, List.append_nil]
        exact HNIL.out
     case measure => simp [intOf]; omega
    | some v =>
     have hge := get_some hby H2.out m hy
     have HGE := Lib.hid hge
     clear hge hby hgd hy hB
     go_wp2_with (first
      | (go_at_call 89; (with_reducible refine HGE.out.mono ?_); rintro e w1 ⟨d, rfl, x1, x2, x3⟩; obtain ⟨_, _, xb, xo, xc, rfl, _, _⟩ := x1; clear x2; unfold verT tup; have hown1 := World.ownsRow.alloc (ownsRow_upd (S := fun _ => False) HOWN.out (Upd.same x3) (fun _ _ x => x)) (.cells #[.int .u64 v.row, .int .u64 v.xmin, .int .u64 v.xmax, .int .i64 v.pg, .int .i64 v.sl, .slice (some ⟨xb, xo, none⟩) v.data.length xc] 147); have HOW1 := Lib.hid hown1; clear hown1)
      | (at_builtin; refine wpList_append_mine rfl (.tmp 25) (.tmp 29) 121 rfl w.heap.size 124 i0 (.agg #[.int .i64 0, .int .i64 0]) 2 16 Tryz.underlying121 hi0 hz0 hz1 hz2 rfl (by decide) _ _ _ rfl (World.ownsRow.alloc HOW1.out _) ⟨w1.heap.size + 1, 0, none⟩ 1 1 [.int .i64 (n : Int), .int .i64 (m : Int)] rfl rfl ?c1 ?c2 ?c3 ?c4 ?c5 ?_))
     case c1 =>
      intro j u hj
      have hh : ((w1.alloc (.cells #[.int .u64 v.row, .int .u64 v.xmin, .int .u64 v.xmax, .int .i64 v.pg, .int .i64 v.sl, .slice (some ⟨xb, xo, none⟩) v.data.length xc] 147)).alloc (.cells #[.int .i64 (n : Int), .int .i64 (m : Int)] 124)).heap[w1.heap.size + 1]? = some (.cells #[.int .i64 (n : Int), .int .i64 (m : Int)] 124 (0, 0)) := by
       have := heap_new1 (w1.alloc (.cells #[.int .u64 v.row, .int .u64 v.xmin, .int .u64 v.xmax, .int .i64 v.pg, .int .i64 v.sl, .slice (some ⟨xb, xo, none⟩) v.data.length xc] 147)) (.cells #[.int .i64 (n : Int), .int .i64 (m : Int)] 124)
       simpa using this
      exact news_block (cs := [.int .i64 (n : Int), .int .i64 (m : Int)]) hh j u hj
     case c2 => intro u hu; simp at hu; rcases hu with rfl | rfl <;> rfl
     case c3 => unfold maxLen; omega
     case c4 => omega
     case c5 => have := HB.out.size; have := x3.size; simp; omega
     intro v' w2 hown' hupd _
     have hb1 : Below w.heap.size w ((w1.alloc (.cells #[.int .u64 v.row, .int .u64 v.xmin, .int .u64 v.xmax, .int .i64 v.pg, .int .i64 v.sl, .slice (some ⟨xb, xo, none⟩) v.data.length xc] 147)).alloc (.cells #[.int .i64 (n : Int), .int .i64 (m : Int)] 124)) :=
      HB.out.trans ((x3.mono HB.out.size).trans (((Below.refl _ _).alloc (Nat.le_trans HB.out.size x3.size) _).alloc (by have := HB.out.size; have := x3.size; simp; omega) _))
     have hb2 : Below w.heap.size w w2 := Upd.below (S := fun b => w.heap.size ≤ b) ((Upd.of_below hb1 (fun b _ h => h)).trans (hupd.mono (fun b _ e => (World.ownsRow.lt HOWN.out b e).1))) (Nat.le_refl _) (fun b hb e => absurd hb (Nat.not_lt_of_le e))
     have HO := Lib.hid hown'
     clear hown' hupd hb1
     go_wp2_with fail
     go_roundw
     case rel =>
      refine ⟨m + 1, by omega, by go_num, ?_, hb2, ?_⟩
      · rw [HSU.out, HGD.out]
        simp only [Option.isSome_some, if_true]
        have := HO.out
        rw [← tids_snoc _ (n, m)] at this
        simpa using this
      · rw [HSU.out, HGD.out]
        intro e
        simp at e
     case measure => simp [intOf]; omega
  · obtain rfl : m = S.length := by omega
    go_wp2_with fail
    go_ret
    exact ⟨_, rfl, HOWN.out, hB, HNIL.out⟩
end
end Go.Proofs.YtnkjnclpakfgnaaGreatDoor
