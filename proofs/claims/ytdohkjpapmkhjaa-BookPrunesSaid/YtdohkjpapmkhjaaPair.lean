/-
  SCRIPTS OF TRANSACTIONS AND SNAPSHOTS (lapidarylaw10's 'play'): whatever the script, both sides are alike, and each snapshot fits what became of the log.
-/
import Derived.Test.YtdohkjpapmkhjaaGrow
namespace Go.Proofs.Ytdohkjpapmkhjaa
open Go.RowKit

/-- Elements of two cells: a uint8, a uint64. -/
def Script2 (w : World) (a : Option Addr) (len : Nat) : Prop :=
  ∀ i, i < len → ∃ b off d x, a = some ⟨b, off, none⟩ ∧ b < w.heap.size ∧ w.cell? ⟨b, off + i * 2, none⟩ = some (.int .u8 d) ∧ w.cell? ⟨b, off + i * 2 + 1, none⟩ = some (.int .u64 x) ∧
    0 ≤ d ∧ d ≤ 255 ∧ 0 ≤ x ∧ x ≤ 18446744073709551615

/-- What a snapshot owes to the log, then and ever after. -/
structure Fits (L : List Nat) (s : Snp) : Prop where
  min : s.xmin = least2 s.xmax s.run
  max : s.xmax ≤ 1 + L.length
  past : ∀ y, y < s.xmax → y ∉ s.run → y ≠ s.own → stt 1 L y ≠ 1

/-- The pair in memory made behind w0. S: each snapshot, its list in the program's memory and in the document's. -/
structure Pair (w0 : World) (pb pl px : Nat) (c : Nat → Nat) (w : World) (sv tv : Value) (L L2 : List Nat) (S : List (Snp × Value × Value)) : Prop where
  blk : w.heap[pb]? = some (.cells #[.pointer (some ⟨pl, 0, none⟩), .pointer (some ⟨px, 0, none⟩), sv, tv] 64 (0, 0))
  l : LogAt c 1 w pl 1 L
  x : RefAt c 2 w px 1 L2
  s : Snaps c 3 w sv (S.map fun z => (z.1, z.2.1))
  t : RSnaps c 4 w tv (S.map fun z => (z.1, z.2.2))
  own : c pb = 5
  fits : ∀ z ∈ S, Fits L z.1
  col : ∀ b, b < w0.heap.size → c b = 0
  below : Below w0.heap.size w0 w

section
variable {w0 : World} {pb pl px : Nat} {c : Nat → Nat} {w w' : World} {sv tv : Value} {L L2 : List Nat} {S : List (Snp × Value × Value)} {k p : Nat} {f : Int}
theorem Pair.same (h : Pair w0 pb pl px c w sv tv L L2 S) (u : Below w.heap.size w w') : Pair w0 pb pl px c w' sv tv L L2 S :=
  ⟨(Upd.same (S := fun _ => False) u).heap h.blk id, h.l.same u, h.x.same u, h.s.same u, h.t.same u, h.own, h.fits, h.col, h.below.trans (u.mono h.below.size)⟩
theorem Pair.alloc (h : Pair w0 pb pl px c w sv tv L L2 S) (o : Obj) : Pair w0 pb pl px c (w.alloc o) sv tv L L2 S := h.same ((Below.refl _ _).alloc (Nat.le_refl _) o)
theorem Pair.drewN (h : Pair w0 pb pl px c w sv tv L L2 S) (n : Nat) : Pair w0 pb pl px c (w.drewN n) sv tv L L2 S := h.same below_drewN

theorem Fits.ended {s : Snp} (h : Fits L s) (x : Int) {q : Nat} (hq : q ≠ 1) : Fits (ended 1 L x q) s :=
  ⟨h.min, by rw [length_ended]; exact h.max, fun y h1 h2 h3 => by
    rw [stt_ended]
    split
    · exact hq
    · exact h.past y h1 h2 h3⟩
theorem Fits.begin {s : Snp} (h : Fits L s) : Fits (L ++ [1]) s :=
  ⟨h.min, by have := h.max; simp; omega, fun y h1 h2 h3 => by
    rw [stt_snoc, if_neg (by have := h.max; omega)]
    exact h.past y h1 h2 h3⟩
theorem Fits.take (L : List Nat) (own : Int) : Fits L (take 1 L own) :=
  ⟨rfl, Int.le_refl _, fun y _ h2 h3 h4 => h2 (List.mem_filter.2 ⟨(mem_running 1 L y).2 h4, by rw [bne_iff_ne]; exact h3⟩)⟩

theorem pair_commit (h : Pair w0 pb pl px c w sv tv L L2 S) (x : Int) : Calls Try.prog 23 #[.pointer (some ⟨pl, 0, none⟩), .int .u64 x] w fun e w' => e = .returned (.int .i64 (endErr 1 L x)) ∧ ∃ c', Pair w0 pb pl px c' w' sv tv (ended 1 L x 2) L2 S := by
  refine (commit_at h.l x).mono fun e w' ⟨h1, h2, h3⟩ => ⟨h1, c, h3.heap h.blk (by have := h.own; omega), h2, h.x.upd h3 (fun b e e' => by omega), h.s.upd h3 (fun b e e' => by omega), h.t.upd h3 (fun b e e' => by omega), h.own, fun z hz => (h.fits z hz).ended x (by decide), h.col, h.below.trans (h3.below h.below.size (fun b hb e => by have := h.col b hb; omega))⟩
theorem pair_abort (h : Pair w0 pb pl px c w sv tv L L2 S) (x : Int) : Calls Try.prog 25 #[.pointer (some ⟨pl, 0, none⟩), .int .u64 x] w fun e w' => e = .returned (.int .i64 (endErr 1 L x)) ∧ ∃ c', Pair w0 pb pl px c' w' sv tv (ended 1 L x 3) L2 S := by
  refine (abort_at h.l x).mono fun e w' ⟨h1, h2, h3⟩ => ⟨h1, c, h3.heap h.blk (by have := h.own; omega), h2, h.x.upd h3 (fun b e e' => by omega), h.s.upd h3 (fun b e e' => by omega), h.t.upd h3 (fun b e e' => by omega), h.own, fun z hz => (h.fits z hz).ended x (by decide), h.col, h.below.trans (h3.below h.below.size (fun b hb e => by have := h.col b hb; omega))⟩
theorem pair_end (h : Pair w0 pb pl px c w sv tv L L2 S) (x : Int) (hx : x < 18446744073709551616) (q : Nat) : Calls Try.prog 24 #[.pointer (some ⟨px, 0, none⟩), .int .u64 x, .int .i64 q] w fun e w' => e = .returned (.int .i64 (endErr 1 L2 x)) ∧ ∃ c', Pair w0 pb pl px c' w' sv tv L (ended 1 L2 x q) S := by
  refine (rend_at h.x x hx q).mono fun e w' ⟨h1, h2, h3⟩ => ⟨h1, c, h3.heap h.blk (by have := h.own; omega), h.l.upd h3 (fun b e e' => by omega), h2, h.s.upd h3 (fun b e e' => by omega), h.t.upd h3 (fun b e e' => by omega), h.own, h.fits, h.col, h.below.trans (h3.below h.below.size (fun b hb e => by have := h.col b hb; omega))⟩
theorem pair_end2 (h : Pair w0 pb pl px c w sv tv L L2 S) (x : Int) (hx : x < 18446744073709551616) : Calls Try.prog 24 #[.pointer (some ⟨px, 0, none⟩), .int .u64 x, .int .i64 2] w fun e w' => e = .returned (.int .i64 (endErr 1 L2 x)) ∧ ∃ c', Pair w0 pb pl px c' w' sv tv L (ended 1 L2 x 2) S := pair_end h x hx 2
theorem pair_end3 (h : Pair w0 pb pl px c w sv tv L L2 S) (x : Int) (hx : x < 18446744073709551616) : Calls Try.prog 24 #[.pointer (some ⟨px, 0, none⟩), .int .u64 x, .int .i64 3] w fun e w' => e = .returned (.int .i64 (endErr 1 L2 x)) ∧ ∃ c', Pair w0 pb pl px c' w' sv tv L (ended 1 L2 x 3) S := pair_end h x hx 3
theorem pair_begin (h : Pair w0 pb pl px c w sv tv L L2 S) (hf : 1 + (L.length : Int) ≤ 1099511627776) : Calls Try.prog 18 #[.pointer (some ⟨pl, 0, none⟩)] w fun e w' => e = .returned (.tuple #[.int .u64 (1 + L.length), .int .i64 0]) ∧ ∃ c', Pair w0 pb pl px c' w' sv tv (L ++ [1]) L2 S := by
  refine (begin_at h.l hf).mono fun e w' ⟨h1, h2, h3⟩ => ?_
  have hne : ∀ j, j ≠ 1 → ∀ b, col c w.heap.size 1 b = j → ¬ c b = 1 := fun j hj b e e' => by
    unfold col at e
    split at e <;> omega
  have hold : ∀ b, b < w.heap.size → col c w.heap.size 1 b = c b := fun b hb => col_old hb
  exact ⟨h1, _, h3.heap h.blk (by have := h.own; omega), h2, (h.x.recol hold).upd h3 (hne 2 (by decide)), (h.s.recol hold).upd h3 (hne 3 (by decide)), (h.t.recol hold).upd h3 (hne 4 (by decide)),
    (hold _ (lt_of_block h.blk)).trans h.own, fun z hz => (h.fits z hz).begin, col_zero h.col h.below.size, h.below.trans (h3.below h.below.size (fun b hb e => by have := h.col b hb; omega))⟩
theorem pair_rbegin (h : Pair w0 pb pl px c w sv tv L L2 S) (hf : 1 + (L2.length : Int) ≤ 1099511627776) : Calls Try.prog 26 #[.pointer (some ⟨px, 0, none⟩)] w fun e w' => e = .returned (.tuple #[.int .u64 (1 + L2.length), .int .i64 0]) ∧ ∃ c', Pair w0 pb pl px c' w' sv tv L (L2 ++ [1]) S := by
  refine (rbegin_at h.x hf).mono fun e w' ⟨h1, h2, h3⟩ => ?_
  have hne : ∀ j, j ≠ 2 → ∀ b, col c w.heap.size 2 b = j → ¬ c b = 2 := fun j hj b e e' => by
    unfold col at e
    split at e <;> omega
  have hold : ∀ b, b < w.heap.size → col c w.heap.size 2 b = c b := fun b hb => col_old hb
  exact ⟨h1, _, h3.heap h.blk (by have := h.own; omega), (h.l.recol hold).upd h3 (hne 1 (by decide)), h2, (h.s.recol hold).upd h3 (hne 3 (by decide)), (h.t.recol hold).upd h3 (hne 4 (by decide)),
    (hold _ (lt_of_block h.blk)).trans h.own, h.fits, col_zero h.col h.below.size, h.below.trans (h3.below h.below.size (fun b hb e => by have := h.col b hb; omega))⟩
end


section
variable {w0 : World} {pb pl px : Nat} {c : Nat → Nat} {W W2 w' : World} {sv tv : Value} {L L2 : List Nat} {S : List (Snp × Value × Value)}
theorem slice_snoc {S : List (Snp × Value × Value)} (x : Snp × Value × Value) : ((S ++ [x]).map fun z => (z.1, z.2.1)) = (S.map fun z => (z.1, z.2.1)) ++ [(x.1, x.2.1)] ∧ ((S ++ [x]).map fun z => (z.1, z.2.2)) = (S.map fun z => (z.1, z.2.2)) ++ [(x.1, x.2.2)] := by simp

/-- Rows of two kinds of element lie in two blocks. -/
theorem rows_apart {w : World} {b1 b2 e1 e2 s1 s2 n1 n2 : Nat} {v1 v2 : Value} {xs1 xs2 : List Value} (h1 : w.ownsRow b1 e1 s1 v1 n1 xs1) (h2 : w.ownsRow b2 e2 s2 v2 n2 xs2) (he : e1 ≠ e2) :
    ∀ g, v1.ownBlock = some g → v2.ownBlock ≠ some g := by
  intro g hg hg2
  rcases h1.2 with ⟨rfl, _⟩ | ⟨g1, cap1, cur1, rfl, _, k1, _⟩
  · cases hg
  · rcases h2.2 with ⟨rfl, _⟩ | ⟨g2, cap2, cur2, rfl, _, k2, _⟩
    · cases hg2
    · simp only [Value.ownBlock, Option.some.injEq] at hg hg2
      subst hg
      subst hg2
      rw [k1] at k2
      simp at k2
      exact he k2.2

/-- One snapshot more. W: where the snapshot was taken; W2: where the lists grew. -/
theorem pair_keep (hP : Pair w0 pb pl px c W sv tv L L2 S) (own : Int) (hz : W.heap.size ≤ W2.heap.size) {v v' r1 r2 : Value}
    (u : Upd (fun b => b = pb ∨ sv.ownBlock = some b ∨ tv.ownBlock = some b) W w')
    (hblk : w'.heap[pb]? = some (.cells #[.pointer (some ⟨pl, 0, none⟩), .pointer (some ⟨px, 0, none⟩), v, v'] 64 (0, 0)))
    (row1 : w'.ownsRow 0 66 4 v ((S.map fun z => (z.1, z.2.1)).length + 1) ((S.map fun z => (z.1, z.2.1)).flatMap snapCells ++ snapCells (take 1 L own, r1))) (own1 : ∀ g, v.ownBlock = some g → sv.ownBlock = some g ∨ W2.heap.size ≤ g)
    (row2 : w'.ownsRow 0 93 3 v' ((S.map fun z => (z.1, z.2.2)).length + 1) ((S.map fun z => (z.1, z.2.2)).flatMap rsnapCells ++ rsnapCells (take 1 L own, r2))) (own2 : ∀ g, v'.ownBlock = some g → (tv.ownBlock = some g ∨ W2.heap.size ≤ g) ∧ v.ownBlock ≠ some g)
    (hr1 : Run w' r1 (take 1 L own).run) (hg1 : ∀ g, r1.ownBlock = some g → W.heap.size ≤ g ∧ g < W2.heap.size)
    (hr2 : Run w' r2 (take 1 L own).run) (hg2 : ∀ g, r2.ownBlock = some g → W.heap.size ≤ g ∧ g < W2.heap.size ∧ r1.ownBlock ≠ some g) (hn : S.length ≤ 1000) :
    ∃ c', Pair w0 pb pl px c' w' v v' L L2 (S ++ [(take 1 L own, r1, r2)]) := by
  have hlb := lt_of_block hP.blk
  have l1 : ∀ g, sv.ownBlock = some g → g < W.heap.size ∧ c g = 3 := fun g hg => ⟨(World.ownsRow.lt hP.s.1 g hg).2, hP.s.2.1 g hg⟩
  have l2 : ∀ g, tv.ownBlock = some g → g < W.heap.size ∧ c g = 4 := fun g hg => ⟨(World.ownsRow.lt hP.t.1 g hg).2, hP.t.2.1 g hg⟩
  have hS : ∀ b, (b = pb ∨ sv.ownBlock = some b ∨ tv.ownBlock = some b) → c b = 5 ∨ c b = 3 ∨ c b = 4 := fun b e => by
    rcases e with rfl | e | e
    · exact .inl hP.own
    · exact .inr (.inl (l1 b e).2)
    · exact .inr (.inr (l2 b e).2)
  have hlt : ∀ b, (b = pb ∨ sv.ownBlock = some b ∨ tv.ownBlock = some b) → b < W.heap.size := fun b e => by
    rcases e with rfl | e | e
    · exact hlb
    · exact (l1 b e).1
    · exact (l2 b e).1
  obtain ⟨e1, e2⟩ := slice_snoc (S := S) (take 1 L own, r1, r2)
  -- whose the blocks are from here on
  let c' : Nat → Nat := fun b => if b < W.heap.size then c b else if r1.ownBlock = some b ∨ v.ownBlock = some b then 3 else if r2.ownBlock = some b ∨ v'.ownBlock = some b then 4 else 9
  have old : ∀ b, b < W.heap.size → c' b = c b := fun b hb => if_pos hb
  have cr1 : ∀ g, r1.ownBlock = some g → c' g = 3 := fun g hg => by
    show (if _ then _ else _) = _
    rw [if_neg (by have := (hg1 g hg).1; omega), if_pos (.inl hg)]
  have cv : ∀ g, v.ownBlock = some g → c' g = 3 := fun g hg => by
    by_cases h : g < W.heap.size
    · rw [old g h]
      rcases own1 g hg with e | e
      · exact (l1 g e).2
      · omega
    · show (if _ then _ else _) = _
      rw [if_neg h, if_pos (.inr hg)]
  have cr2 : ∀ g, r2.ownBlock = some g → c' g = 4 := fun g hg => by
    have hk := hg2 g hg
    show (if _ then _ else _) = _
    rw [if_neg (by omega), if_neg, if_pos (.inl hg)]
    rintro (e | e)
    · exact hk.2.2 e
    · rcases own1 g e with e | e
      · have := l1 g e; omega
      · omega
  have cv' : ∀ g, v'.ownBlock = some g → c' g = 4 := fun g hg => by
    by_cases h : g < W.heap.size
    · rw [old g h]
      rcases (own2 g hg).1 with e | e
      · exact (l2 g e).2
      · omega
    · show (if _ then _ else _) = _
      rw [if_neg h, if_neg, if_pos (.inr hg)]
      rintro (e | e)
      · rcases (own2 g hg).1 with e3 | e3
        · have := l2 g e3; omega
        · have := hg1 g e; omega
      · exact (own2 g hg).2 e
  have ne1 : ∀ z ∈ S, ∀ g, z.2.1.ownBlock = some g → ¬ (g = pb ∨ sv.ownBlock = some g ∨ tv.ownBlock = some g) := fun z hz g hg e => by
    obtain ⟨k1, k2⟩ := hP.s.2.2.1 (z.1, z.2.1) (List.mem_map.2 ⟨z, hz, rfl⟩)
    have := k2 g hg
    rcases e with e | e | e
    · have h5 := hP.own; rw [e] at this; omega
    · exact rows_apart k1.1 hP.s.1 (by decide) g hg e
    · exact rows_apart k1.1 hP.t.1 (by decide) g hg e
  have ne2 : ∀ z ∈ S, ∀ g, z.2.2.ownBlock = some g → ¬ (g = pb ∨ sv.ownBlock = some g ∨ tv.ownBlock = some g) := fun z hz g hg e => by
    obtain ⟨k1, k2⟩ := hP.t.2.2.1 (z.1, z.2.2) (List.mem_map.2 ⟨z, hz, rfl⟩)
    have := k2 g hg
    rcases e with e | e | e
    · have h5 := hP.own; rw [e] at this; omega
    · exact rows_apart k1.1 hP.s.1 (by decide) g hg e
    · exact rows_apart k1.1 hP.t.1 (by decide) g hg e
  refine ⟨c', hblk, (hP.l.recol old).upd u (fun b e e2 => ?_), (hP.x.recol old).upd u (fun b e e2 => ?_), ⟨?_, cv, ?_, ?_⟩, ⟨?_, cv', ?_, ?_⟩, (old _ hlb).trans hP.own, ?_, ?_, hP.below.trans (u.below hP.below.size ?_)⟩
  · have := old b (hlt b e2)
    have := hS b e2
    omega
  · have := old b (hlt b e2)
    have := hS b e2
    omega
  · rw [e1, List.length_append, List.flatMap_append]
    simpa using row1
  · intro x hx
    rw [e1] at hx
    rcases List.mem_append.1 hx with hx | hx
    · obtain ⟨z, hz, rfl⟩ := List.mem_map.1 hx
      obtain ⟨k1, k2⟩ := hP.s.2.2.1 (z.1, z.2.1) (List.mem_map.2 ⟨z, hz, rfl⟩)
      exact ⟨k1.upd u (ne1 z hz), fun g hg => (old g (k1.lt g hg)).trans (k2 g hg)⟩
    · obtain rfl := List.mem_singleton.1 hx
      exact ⟨hr1, cr1⟩
  · simp; omega
  · rw [e2, List.length_append, List.flatMap_append]
    simpa using row2
  · intro x hx
    rw [e2] at hx
    rcases List.mem_append.1 hx with hx | hx
    · obtain ⟨z, hz, rfl⟩ := List.mem_map.1 hx
      obtain ⟨k1, k2⟩ := hP.t.2.2.1 (z.1, z.2.2) (List.mem_map.2 ⟨z, hz, rfl⟩)
      exact ⟨k1.upd u (ne2 z hz), fun g hg => (old g (k1.lt g hg)).trans (k2 g hg)⟩
    · obtain rfl := List.mem_singleton.1 hx
      exact ⟨hr2, cr2⟩
  · simp; omega
  · intro z hz
    rcases List.mem_append.1 hz with hz | hz
    · exact hP.fits z hz
    · obtain rfl := List.mem_singleton.1 hz
      exact Fits.take L own
  · intro b hb
    rw [old b (Nat.lt_of_lt_of_le hb hP.below.size)]
    exact hP.col b hb
  · intro b hb e
    have := hS b e
    have := hP.col b hb
    omega

/-- The same, from what the region's law hands on. -/
theorem pair_tail {w1 w5 : World} {a0 a : Act} {x1 x2 : Bool} {y1 y2 : Option Nat} {v v' r1 r2 : Value} (hP : Pair w0 pb pl px c W sv tv L L2 S) (own : Int) (hbl : Below W.heap.size W w1) (hB : Below w1.heap.size w1 W2)
    (hg : Gr a0 W2 pb sv tv (S.map fun z => (z.1, z.2.1)).length (S.map fun z => (z.1, z.2.2)).length ((S.map fun z => (z.1, z.2.1)).flatMap snapCells) ((S.map fun z => (z.1, z.2.2)).flatMap rsnapCells)
      (snapCells (take 1 L own, r1)) (rsnapCells (take 1 L own, r2)) x1 x2 y1 y2 (some v) (some v') a w5)
    (hr1 : Run w1 r1 (take 1 L own).run) (hg1 : ∀ g, r1.ownBlock = some g → W.heap.size ≤ g)
    (hr2 : Run w1 r2 (take 1 L own).run) (hg2 : ∀ g, r2.ownBlock = some g → W.heap.size ≤ g ∧ r1.ownBlock ≠ some g) (hn : S.length ≤ 1000) :
    ∃ c', Pair w0 pb pl px c' ((w5.setCell ⟨pb, 2, none⟩ v).setCell ⟨pb, 3, none⟩ v') v v' L L2 (S ++ [(take 1 L own, r1, r2)]) := by
  have hlb := lt_of_block hP.blk
  have l1 : ∀ g, sv.ownBlock = some g → g < W.heap.size ∧ c g = 3 := fun g hg => ⟨(World.ownsRow.lt hP.s.1 g hg).2, hP.s.2.1 g hg⟩
  have l2 : ∀ g, tv.ownBlock = some g → g < W.heap.size ∧ c g = 4 := fun g hg => ⟨(World.ownsRow.lt hP.t.1 g hg).2, hP.t.2.1 g hg⟩
  have h5 := hP.own
  have np : ¬ (sv.ownBlock = some pb ∨ tv.ownBlock = some pb) := fun e => by
    rcases e with e | e
    · have := (l1 _ e).2; omega
    · have := (l2 _ e).2; omega
  have z1 := hbl.size
  have z2 := hB.size
  have z3 := hg.upd.size
  have uset : Upd (fun b => b = pb) w5 ((w5.setCell ⟨pb, 2, none⟩ v).setCell ⟨pb, 3, none⟩ v') := ((Upd.refl (fun b => b = pb) w5).setCell (a := ⟨pb, 2, none⟩) v (fun _ => rfl)).setCell (a := ⟨pb, 3, none⟩) v' (fun _ => rfl)
  have uW : Upd (fun _ => False) W W2 := (Upd.same hbl).trans (Upd.same hB)
  obtain ⟨o1, o2⟩ := hg.o1 v rfl
  obtain ⟨o3, o4⟩ := hg.o2 v' rfl
  have nv : ∀ g, v.ownBlock = some g → ¬ g = pb := fun g e e2 => by
    rcases o2 g e with e3 | e3
    · exact np (.inl (e2 ▸ e3))
    · omega
  have nv' : ∀ g, v'.ownBlock = some g → ¬ g = pb := fun g e e2 => by
    rcases (o4 g e).1 with e3 | e3
    · exact np (.inr (e2 ▸ e3))
    · omega
  have nr1 : ∀ g, r1.ownBlock = some g → ¬ (sv.ownBlock = some g ∨ tv.ownBlock = some g) := fun g e e2 => by
    have := hg1 g e
    rcases e2 with e2 | e2
    · have := l1 g e2; omega
    · have := l2 g e2; omega
  have nr2 : ∀ g, r2.ownBlock = some g → ¬ (sv.ownBlock = some g ∨ tv.ownBlock = some g) := fun g e e2 => by
    have := (hg2 g e).1
    rcases e2 with e2 | e2
    · have := l1 g e2; omega
    · have := l2 g e2; omega
  refine pair_keep (W2 := W2) hP own (by omega) ?_ ?_ (ownsRow_upd o1 uset nv) o2 (ownsRow_upd o3 uset nv') (fun g e => ⟨(o4 g e).1, (o4 g e).2 v rfl⟩) (((hr1.same hB).upd hg.upd nr1).upd uset (fun g e => by have := hg1 g e; omega))
    (fun g e => ⟨hg1 g e, by have := hr1.lt g e; omega⟩) (((hr2.same hB).upd hg.upd nr2).upd uset (fun g e => by have := (hg2 g e).1; omega)) (fun g e => ⟨(hg2 g e).1, by have := hr2.lt g e; omega, (hg2 g e).2⟩) hn
  · exact ((uW.mono (T := fun b => b = pb ∨ sv.ownBlock = some b ∨ tv.ownBlock = some b) (fun _ _ e => e.elim)).trans_new hg.upd (fun b _ e => .inr e)).trans_new uset (fun b _ e => .inl e)
  · have b5 := hg.upd.heap (uW.heap hP.blk id) np
    have := block_setCell (i := 3) (block_setCell (i := 2) b5 v) v'
    simpa using this

theorem tail_box {w : World} {pb : Nat} {x y sv tv : Value} (h : w.heap[pb]? = some (.cells #[x, y, sv, tv] 64 (0, 0))) (v : Value) :
    w.cell? ⟨pb, 2, none⟩ = some sv ∧ w.frozen? ⟨pb, 2, none⟩ = false ∧ (w.setCell ⟨pb, 2, none⟩ v).cell? ⟨pb, 3, none⟩ = some tv ∧ (w.setCell ⟨pb, 2, none⟩ v).frozen? ⟨pb, 3, none⟩ = false :=
  ⟨cell_of_block h rfl, free_of_block h, cell_of_block (block_setCell h v) rfl, free_of_block (block_setCell h v)⟩
theorem tail_cells {w : World} {pb p q : Nat} {own xmin xmax : Int} {r1 r2 : Value} (hp : w.heap[p]? = some (.cells (c66 own xmin xmax r1) 66 (0, 0))) (hq : w.heap[q]? = some (.cells (c93 own xmax r2) 93 (0, 0))) (h1 : p ≠ pb) (h2 : q ≠ pb) (v v' : Value) :
    ((w.setCell ⟨pb, 2, none⟩ v).heap[p]? = some (.cells (c66 own xmin xmax r1) 66 (0, 0)) ∧ (w.setCell ⟨pb, 2, none⟩ v).heap[q]? = some (.cells (c93 own xmax r2) 93 (0, 0))) ∧
      (((w.setCell ⟨pb, 2, none⟩ v).setCell ⟨pb, 3, none⟩ v').heap[p]? = some (.cells (c66 own xmin xmax r1) 66 (0, 0)) ∧ ((w.setCell ⟨pb, 2, none⟩ v).setCell ⟨pb, 3, none⟩ v').heap[q]? = some (.cells (c93 own xmax r2) 93 (0, 0))) :=
  ⟨⟨block_setCell_other hp h1 v, block_setCell_other hq h2 v⟩, block_setCell_other (block_setCell_other hp h1 v) h1 v', block_setCell_other (block_setCell_other hq h2 v) h2 v'⟩
end
end Go.Proofs.Ytdohkjpapmkhjaa
