/-
  THE BOOK IN MEMORY (package book): 'BookAt c k w p T I last': at block p of w there lies a book of the tables T (each of one column "a" of numbers) and the indexes I; its blocks are k's by c. What entries, taken, table come to.
-/
import Derived.Test.YtdohkjpapmkhjaaEnts
namespace Go.Proofs.Ytdohkjpapmkhjaa
open Go.RowKit

def nameA : ByteArray := ⟨#[97]⟩
/-- The column of all tables here. -/
def ColsAt (w : World) (cv : Value) : Prop := w.ownsRow 0 147 2 cv 1 [.string nameA, .int .u8 1]
def TabAt (w : World) (t : Nat × Ent × Value) : Prop :=
  w.heap[t.1]? = some (.cells #[.int .u64 t.2.1.id, .string t.2.1.name, .int .u64 t.2.1.xmin, .int .u64 t.2.1.xmax, t.2.2] 149 (0, 0)) ∧ ColsAt w t.2.2
def IndAt (w : World) (t : Nat × Ent × Int) : Prop :=
  w.heap[t.1]? = some (.cells #[.int .u64 t.2.1.id, .string t.2.1.name, .int .u64 t.2.1.xmin, .int .u64 t.2.1.xmax, .int .u64 t.2.2, .int .i64 0] 155 (0, 0))
def ptr (b : Nat) : Value := .pointer (some ⟨b, 0, none⟩)
def ptrs (l : List Nat) : List Value := l.map ptr

structure BookAt (c : Nat → Nat) (k : Nat) (w : World) (p : Nat) (tv iv : Value) (T : List (Nat × Ent × Value)) (I : List (Nat × Ent × Int)) (last : Int) : Prop where
  blk : w.heap[p]? = some (.cells #[tv, iv, .int .u64 last] 137 (0, 0))
  trow : w.ownsRow 0 140 1 tv T.length (ptrs (T.map (·.1)))
  irow : w.ownsRow 0 153 1 iv I.length (ptrs (I.map (·.1)))
  cp : c p = k
  ct : ∀ g, tv.ownBlock = some g → c g = k
  ci : ∀ g, iv.ownBlock = some g → c g = k
  tabs : ∀ t ∈ T, TabAt w t ∧ c t.1 = k ∧ ∀ g, t.2.2.ownBlock = some g → c g = k
  inds : ∀ t ∈ I, IndAt w t ∧ c t.1 = k
  tonce : (T.map (·.1)).Nodup
  ionce : (I.map (·.1)).Nodup
  tlen : T.length ≤ 16
  ilen : I.length ≤ 16
  lo : 0 ≤ last
  hi : last ≤ 1099511627776

section
variable {c : Nat → Nat} {k p : Nat} {w w' : World} {tv iv : Value} {T : List (Nat × Ent × Value)} {I : List (Nat × Ent × Int)} {last : Int}
theorem ColsAt.upd {cv : Value} {S : Nat → Prop} (h : ColsAt w cv) (u : Upd S w w') (hs : ∀ b, cv.ownBlock = some b → ¬ S b) : ColsAt w' cv := ownsRow_upd h u hs
theorem BookAt.upd {S : Nat → Prop} (h : BookAt c k w p tv iv T I last) (u : Upd S w w') (hs : ∀ b, c b = k → ¬ S b) : BookAt c k w' p tv iv T I last :=
  ⟨u.heap h.blk (hs p h.cp), ownsRow_upd h.trow u (fun b hb => hs b (h.ct b hb)), ownsRow_upd h.irow u (fun b hb => hs b (h.ci b hb)), h.cp, h.ct, h.ci,
    fun t ht => ⟨⟨u.heap (h.tabs t ht).1.1 (hs _ (h.tabs t ht).2.1), (h.tabs t ht).1.2.upd u (fun b hb => hs b ((h.tabs t ht).2.2 b hb))⟩, (h.tabs t ht).2⟩,
    fun t ht => ⟨u.heap (h.inds t ht).1 (hs _ (h.inds t ht).2), (h.inds t ht).2⟩, h.tonce, h.ionce, h.tlen, h.ilen, h.lo, h.hi⟩
theorem BookAt.same (h : BookAt c k w p tv iv T I last) (u : Below w.heap.size w w') : BookAt c k w' p tv iv T I last := h.upd (S := fun _ => False) (Upd.same u) (fun _ _ x => x)
theorem BookAt.recol {c' : Nat → Nat} (h : BookAt c k w p tv iv T I last) (hc : ∀ b, b < w.heap.size → c' b = c b) : BookAt c' k w p tv iv T I last :=
  ⟨h.blk, h.trow, h.irow, (hc p (lt_of_block h.blk)).trans h.cp, fun g hg => (hc g (World.ownsRow.lt h.trow g hg).2).trans (h.ct g hg), fun g hg => (hc g (World.ownsRow.lt h.irow g hg).2).trans (h.ci g hg),
    fun t ht => ⟨(h.tabs t ht).1, (hc _ (lt_of_block (h.tabs t ht).1.1)).trans (h.tabs t ht).2.1, fun g hg => (hc g (World.ownsRow.lt (h.tabs t ht).1.2 g hg).2).trans ((h.tabs t ht).2.2 g hg)⟩,
    fun t ht => ⟨(h.inds t ht).1, (hc _ (lt_of_block (h.inds t ht).1)).trans (h.inds t ht).2⟩, h.tonce, h.ionce, h.tlen, h.ilen, h.lo, h.hi⟩
theorem TabAt.ent {t : Nat × Ent × Value} (h : TabAt w t) : EntAt w t.1 t.2.1 := ⟨cell_of_block h.1 rfl, cell_of_block h.1 rfl, cell_of_block h.1 rfl, cell_of_block h.1 rfl⟩
theorem IndAt.ent {t : Nat × Ent × Int} (h : IndAt w t) : EntAt w t.1 t.2.1 := ⟨cell_of_block h rfl, cell_of_block h rfl, cell_of_block h rfl, cell_of_block h rfl⟩

/-- All entries, with their blocks: the tables, then the indexes. -/
def ents (T : List (Nat × Ent × Value)) (I : List (Nat × Ent × Int)) : List (Nat × Ent) := (T.map fun t => (t.1, t.2.1)) ++ (I.map fun t => (t.1, t.2.1))
theorem BookAt.ents (h : BookAt c k w p tv iv T I last) : ∀ x ∈ ents T I, EntAt w x.1 x.2 := fun x hx => by
  rcases List.mem_append.1 hx with hx | hx
  · obtain ⟨t, ht, rfl⟩ := List.mem_map.1 hx; exact (h.tabs t ht).1.ent
  · obtain ⟨t, ht, rfl⟩ := List.mem_map.1 hx; exact (h.inds t ht).1.ent

theorem Try.info151 : (Try.prog.info? 151).map (fun i => (i.zero, i.size, i.bytes)) = some (some (.pointer none), 1, 8) := by kernel_rfl
theorem ptrs_at {b : Nat} {e n : Nat} {v : Value} {l : List Nat} (h : w.ownsRow b e 1 v n (ptrs l)) {i : Nat} (hi : i < l.length) :
    ∃ g cap, v = .slice (some ⟨g, 0, none⟩) n cap ∧ w.cell? ⟨g, i, none⟩ = some (.pointer (some ⟨l[i], 0, none⟩)) := by
  have hj : (ptrs l)[i]? = some (ptr l[i]) := by simp [ptrs, hi]
  obtain ⟨g, cap, hv, hc, _⟩ := ownsRow_cell1 h hj
  exact ⟨g, cap, hv, hc⟩
theorem ptrs_snoc (l : List Nat) (b : Nat) : ptrs (l ++ [b]) = ptrs l ++ [.pointer (some ⟨b, 0, none⟩)] := by simp [ptrs, ptr]

set_option maxHeartbeats 1000000 in
set_option maxRecDepth 100000 in
/-- (*book.Book).entries. -/
theorem entries_at (h : BookAt c k w p tv iv T I last) :
    Calls Try.prog 80 #[.pointer (some ⟨p, 0, none⟩)] w fun r w' => ∃ v, r = .returned v ∧ w'.ownsRow w.heap.size 151 1 v (ents T I).length (ptrs ((ents T I).map (·.1))) ∧ Below w.heap.size w w' := by
  obtain ⟨i0, hi, hz0, hz1, hz2⟩ := info_parts Try.info151
  have k0 := cell_of_block h.blk (i := 0) rfl
  have k1 := cell_of_block h.blk (i := 1) rfl
  obtain ⟨ta, tc, htv⟩ := ownsRow_slice h.trow
  obtain ⟨ia, ic, hiv⟩ := ownsRow_slice h.irow
  have htr := h.trow
  have hir := h.irow
  have htl := h.tlen
  have hil := h.ilen
  subst htv
  subst hiv
  have k0' : w.cell? ⟨p, 0, none⟩ = some (.slice ta T.length tc) := k0
  have k1' : w.cell? ⟨p, 1, none⟩ = some (.slice ia I.length ic) := k1
  have he1 : (ents T I).map (·.1) = T.map (·.1) ++ I.map (·.1) := by unfold Ytdohkjpapmkhjaa.ents; rw [List.map_append, List.map_map, List.map_map]; rfl
  have he2 : (ents T I).length = T.length + I.length := by simp [ents]
  rw [he1, he2]
  obtain ⟨TB, hTB⟩ : ∃ TB, TB = T.map (·.1) := ⟨_, rfl⟩
  obtain ⟨IB, hIB⟩ : ∃ IB, IB = I.map (·.1) := ⟨_, rfl⟩
  obtain ⟨nt, hnt⟩ : ∃ nt, nt = T.length := ⟨_, rfl⟩
  obtain ⟨ni, hni⟩ : ∃ ni, ni = I.length := ⟨_, rfl⟩
  have hTl : TB.length = nt := by rw [hTB, hnt]; simp
  have hIl : IB.length = ni := by rw [hIB, hni]; simp
  rw [← hTB] at htr ⊢
  rw [← hIB] at hir ⊢
  rw [← hnt] at htr htl k0' ⊢
  rw [← hni] at hir hil k1' ⊢
  clear h k0 k1 he1 he2 hTB hIB hnt hni
  have HTL := Lib.hid hTl; have HIL := Lib.hid hIl; clear hTl hIl
  go_enter Try.func80, Try.ntmps80
  go_wp2_with fail
  go_loopw [3, 13] (fun v i wr => ∃ n : Nat, n ≤ nt ∧ i = .int .i64 n ∧ wr.ownsRow w.heap.size 151 1 v n (ptrs (TB.take n)) ∧ Below w.heap.size w wr) (fun _ i _ => nt - (intOf i).toNat)
  case atStart => exact ⟨0, Nat.zero_le _, rfl, World.ownsRow_nil _ _ _ _, Below.refl _ _⟩
  case round =>
    obtain ⟨n, hn, rfl, hown, hB⟩ := hrel
    have hz := hB.size
    have hwn : ∀ b, u3.ownBlock = some b → w.heap.size ≤ b := fun b hb => (World.ownsRow.lt hown b hb).1
    have HWN := Lib.hid hwn; clear hwn
    by_cases hlt : n < nt
    · obtain ⟨g, cp, hg, cg⟩ := ptrs_at htr (i := n) (by rw [HTL.out]; exact hlt)
      simp only [Value.slice.injEq] at hg
      obtain ⟨rfl, _, rfl⟩ := hg
      have cg' := keeper hB cg
      have htk : ptrs (TB.take (n + 1)) = ptrs (TB.take n) ++ [.pointer (some ⟨TB[n]'(by rw [HTL.out]; exact hlt), 0, none⟩)] := by rw [List.take_succ_eq_append_getElem (by rw [HTL.out]; exact hlt), ptrs_snoc]
      obtain ⟨b, hb⟩ : ∃ b, b = TB[n]'(by rw [HTL.out]; exact hlt) := ⟨_, rfl⟩
      rw [← hb] at cg' htk
      have HTK := Lib.hid htk; clear htk cg hb
      go_wp2_with (at_builtin; refine wpList_append_mine rfl (.tmp 17) (.tmp 21) 152 rfl w.heap.size 151 i0 (.pointer none) 1 8 Try.underlying152 hi hz0 hz1 hz2 rfl (by decide) _ _ _ rfl (World.ownsRow.alloc hown _) ⟨wr.heap.size, 0, none⟩ 1 1 [.pointer (some ⟨b, 0, none⟩)] rfl rfl ?c1 ?c2 ?c3 ?c4 ?c5 ?_)
      case c1 => first | exact fun j u h => h | exact cell_one_new _ _ _
      case c2 => intro u hu; simp at hu; subst hu; rfl
      case c3 => unfold maxLen; omega
      case c4 => omega
      case c5 => first | omega | (simp; omega)
      intro v' w5 hown' hupd hnew
      have hb5 : Below w.heap.size wr w5 := Upd.below (S := fun b => u3.ownBlock = some b) ((Upd.same ((Below.refl _ _).alloc (Nat.le_refl _) _)).trans hupd) hz (fun b hb e => by have := HWN.out _ e; omega)
      go_wp2_with fail
      go_roundw
      case rel => exact ⟨n + 1, by omega, by go_num, by rw [HTK.out]; exact hown', hB.trans hb5⟩
      case measure => simp [intOf]; omega
    · have hnl : n = nt := by omega
      subst hnl
      have htk : TB.take n = TB := List.take_of_length_le (by rw [HTL.out]; exact Nat.le_refl _)
      rw [htk] at hown
      have k1r := keeper hB k1'
      clear htk k0' k1'
      go_wp2_with fail
      obtain ⟨wo, hwo⟩ : ∃ wo, wo = wr := ⟨_, rfl⟩
      subst hwo
      go_loopw [3, 29] (fun v i wr => ∃ q : Nat, q ≤ ni ∧ i = .int .i64 q ∧ wr.ownsRow w.heap.size 151 1 v (n + q) (ptrs (TB ++ IB.take q)) ∧ Below w.heap.size w wr) (fun _ i _ => ni - (intOf i).toNat)
      case atStart => exact ⟨0, Nat.zero_le _, rfl, by rw [List.take_zero, List.append_nil]; exact hown, hB⟩
      case round =>
        obtain ⟨q, hq, rfl, hown2, hB2⟩ := hrel
        have hz2' := hB2.size
        have hwn2 : ∀ b, u3.ownBlock = some b → w.heap.size ≤ b := fun b hb => (World.ownsRow.lt hown2 b hb).1
        have HWN2 := Lib.hid hwn2; clear hwn2
        by_cases hlt2 : q < ni
        · obtain ⟨g, cp, hg, cg⟩ := ptrs_at hir (i := q) (by rw [HIL.out]; exact hlt2)
          simp only [Value.slice.injEq] at hg
          obtain ⟨rfl, _, rfl⟩ := hg
          have cg' := keeper hB2 cg
          have htk : ptrs (TB ++ IB.take (q + 1)) = ptrs (TB ++ IB.take q) ++ [.pointer (some ⟨IB[q]'(by rw [HIL.out]; exact hlt2), 0, none⟩)] := by rw [List.take_succ_eq_append_getElem (by rw [HIL.out]; exact hlt2), ← List.append_assoc, ptrs_snoc]
          obtain ⟨b, hb⟩ : ∃ b, b = IB[q]'(by rw [HIL.out]; exact hlt2) := ⟨_, rfl⟩
          rw [← hb] at cg' htk
          have HTK := Lib.hid htk; clear htk cg hb
          go_wp2_with (at_builtin; refine wpList_append_mine rfl (.tmp 33) (.tmp 37) 152 rfl w.heap.size 151 i0 (.pointer none) 1 8 Try.underlying152 hi hz0 hz1 hz2 rfl (by decide) _ _ _ rfl (World.ownsRow.alloc hown2 _) ⟨wr.heap.size, 0, none⟩ 1 1 [.pointer (some ⟨b, 0, none⟩)] rfl rfl ?c1 ?c2 ?c3 ?c4 ?c5 ?_)
          case c1 => first | exact fun j u h => h | exact cell_one_new _ _ _
          case c2 => intro u hu; simp at hu; subst hu; rfl
          case c3 => unfold maxLen; omega
          case c4 => omega
          case c5 => first | omega | (simp; omega)
          intro v' w5 hown' hupd hnew
          have hb5 : Below w.heap.size wr w5 := Upd.below (S := fun b => u3.ownBlock = some b) ((Upd.same ((Below.refl _ _).alloc (Nat.le_refl _) _)).trans hupd) hz2' (fun b hb e => by have := HWN2.out _ e; omega)
          go_wp2_with fail
          go_roundw
          case rel => exact ⟨q + 1, by omega, by go_num, by rw [HTK.out]; exact hown', hB2.trans hb5⟩
          case measure => simp [intOf]; omega
        · have hql : q = ni := by omega
          subst hql
          have htk2 : IB.take q = IB := List.take_of_length_le (by rw [HIL.out]; exact Nat.le_refl _)
          rw [htk2] at hown2
          clear htk2
          go_wp2_with fail
          go_ret
          exact ⟨_, rfl, hown2, hB2⟩
end
end Go.Proofs.Ytdohkjpapmkhjaa
