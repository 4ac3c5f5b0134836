/-
  THE LOG, THE BOOK AND A SLICE OF SNAPSHOTS SIDE BY SIDE: colours: the log's blocks 1, the book's 2, the snapshots' 9.
-/
import Derived.Test.YtdohkjpapmkhjaaDropW
namespace Go.Proofs.Ytdohkjpapmkhjaa
open Go.RowKit

structure Line (w0 : World) (c : Nat → Nat) (w : World) (pl p : Nat) (L : List Nat) (tv iv : Value) (T : List (Nat × Ent × Value)) (I : List (Nat × Ent × Int)) (last : Int) (sv : Value) (ss : List (Snp × Value)) : Prop where
  d : Desk w0 c w pl p L tv iv T I last
  s : Snaps c 9 w sv ss

section
variable {w0 : World} {c : Nat → Nat} {w w' : World} {pl p : Nat} {L L' : List Nat} {tv iv : Value} {T : List (Nat × Ent × Value)} {I : List (Nat × Ent × Int)} {last : Int} {rv : Value} {l : List Int} {sv : Value} {ss : List (Snp × Value)}
theorem Line.same (h : Line w0 c w pl p L tv iv T I last sv ss) (u : Below w.heap.size w w') : Line w0 c w' pl p L tv iv T I last sv ss := ⟨h.d.same u, h.s.same u⟩
theorem Line.recol (h : Line w0 c w pl p L tv iv T I last sv ss) {c' : Nat → Nat} (hold : ∀ b, b < w.heap.size → c' b = c b) : Line w0 c' w pl p L tv iv T I last sv ss := ⟨h.d.recol hold, h.s.recol hold⟩
theorem line_begin (h : Line w0 c w pl p L tv iv T I last sv ss) (hf : 1 + (L.length : Int) ≤ 1099511627776) : Calls Try.prog 18 #[.pointer (some ⟨pl, 0, none⟩)] w fun e w' => e = .returned (.tuple #[.int .u64 (1 + L.length), .int .i64 0]) ∧
    ∃ c', Line w0 c' w' pl p (L ++ [1]) tv iv T I last sv ss := by
  refine (desk_begin h.d hf).mono fun e w' ⟨h1, h2, h3⟩ => ⟨h1, _, h2, ?_⟩
  have hold : ∀ b, b < w.heap.size → col c w.heap.size 1 b = c b := fun b hb => col_old hb
  have k := h.s.recol hold
  exact k.upd (h3.mono (T := fun b => col c w.heap.size 1 b = 1) (fun b hb e => (hold b hb).trans e)) (fun b e e2 => by omega)
theorem line_commit (h : Line w0 c w pl p L tv iv T I last sv ss) (x : Int) : Calls Try.prog 23 #[.pointer (some ⟨pl, 0, none⟩), .int .u64 x] w fun e w' => e = .returned (.int .i64 (endErr 1 L x)) ∧ Line w0 c w' pl p (ended 1 L x 2) tv iv T I last sv ss ∧ Upd (fun b => c b = 1) w w' := by
  refine (desk_commit h.d x).mono fun e w' ⟨h1, h2, h3⟩ => ⟨h1, ⟨h2, h.s.upd h3 (fun b e e2 => by omega)⟩, h3⟩
theorem line_abort (h : Line w0 c w pl p L tv iv T I last sv ss) (x : Int) : Calls Try.prog 25 #[.pointer (some ⟨pl, 0, none⟩), .int .u64 x] w fun e w' => e = .returned (.int .i64 (endErr 1 L x)) ∧ Line w0 c w' pl p (ended 1 L x 3) tv iv T I last sv ss ∧ Upd (fun b => c b = 1) w w' := by
  refine (desk_abort h.d x).mono fun e w' ⟨h1, h2, h3⟩ => ⟨h1, ⟨h2, h.s.upd h3 (fun b e e2 => by omega)⟩, h3⟩
theorem line_take (h : Line w0 c w pl p L tv iv T I last sv ss) (x : Int) : Calls Try.prog 36 #[.pointer (some ⟨pl, 0, none⟩), .int .u64 x] w fun e w' => ∃ rv, e = .returned ((take 1 L x).val rv) ∧
    ∃ c', Own9 c' w' rv (take 1 L x).run ∧ Line w0 c' w' pl p L tv iv T I last sv ss := by
  refine (desk_take h.d x).mono fun e w' ⟨rv, h1, h2, h3, h4⟩ => ⟨rv, h1, _, h2, h3, (h.s.recol (fun b hb => col_old hb)).same h4⟩
/-- One snapshot more. -/
theorem Line.look (h : Line w0 c w pl p L tv iv T I last sv ss) {s : Snp} {rv sv' : Value} (hr : Own9 c w rv s.run)
    (hs : w'.ownsRow 0 66 4 sv' (ss.length + 1) (ss.flatMap snapCells ++ snapCells (s, rv))) (u : Upd (fun b => sv.ownBlock = some b) w w') (hn : ∀ g, sv'.ownBlock = some g → sv.ownBlock = some g ∨ w.heap.size ≤ g) (hl : ss.length ≤ 100000) :
    Line w0 (Ytdohkjpapmkhjaa.col c w.heap.size 9) w' pl p L tv iv T I last sv' (ss ++ [(s, rv)]) := by
  have hold : ∀ b, b < w.heap.size → Ytdohkjpapmkhjaa.col c w.heap.size 9 b = c b := fun b hb => col_old hb
  have k := h.recol hold
  have ks : ∀ b, sv.ownBlock = some b → Ytdohkjpapmkhjaa.col c w.heap.size 9 b = 9 := fun b hb => k.s.2.1 b hb
  have kr := hr.recol hold
  refine ⟨⟨k.d.l.upd u (fun b e e2 => by have := ks b e2; omega), k.d.b.upd u (fun b e e2 => by have := ks b e2; omega), k.d.col, k.d.below.trans (u.below k.d.below.size (fun b hb e => by have := ks b e; have := k.d.col b hb; omega))⟩,
    ⟨?_, fun g e => ?_, fun x hx => ?_, by simp; omega⟩⟩
  · rw [List.length_append, List.flatMap_append]; simpa using hs
  · rcases hn g e with e2 | e2
    · exact ks g e2
    · exact col_new e2
  · rcases List.mem_append.1 hx with hx | hx
    · exact ⟨(k.s.2.2.1 x hx).1.upd u (fun b e e2 => rows_apart (k.s.2.2.1 x hx).1.1 k.s.1 (by decide) b e e2), (k.s.2.2.1 x hx).2⟩
    · obtain rfl := List.mem_singleton.1 hx
      exact ⟨kr.1.upd u (fun b e e2 => rows_apart kr.1.1 k.s.1 (by decide) b e e2), kr.2⟩
/-- Element i, its slice laid open. -/
theorem Snaps.open {k : Nat} (h : Snaps c k w sv ss) {i : Nat} (hi : i < ss.length) : ∃ g cap s ra rc, sv = .slice (some ⟨g, 0, none⟩) ss.length cap ∧ ss[i] = (s, .slice ra s.run.length rc) ∧ c g = k := by
  obtain ⟨g, cap, hsv, _, _, _, ⟨ra, rc, _, h2⟩, _, hg⟩ := h.at hi
  exact ⟨g, cap, ss[i].1, ra, rc, hsv, by rw [← h2], hg⟩
theorem Snaps.four {k g cap : Nat} (h : Snaps c k w (.slice (some ⟨g, 0, none⟩) ss.length cap) ss) {i : Nat} (hi : i < ss.length) {s : Snp} {ra : Option Addr} {rc : Nat} (hv : ss[i] = (s, .slice ra s.run.length rc)) :
    w.cell? ⟨g, i * 4, none⟩ = some (.int .u64 s.own) ∧ w.cell? ⟨g, i * 4 + 1, none⟩ = some (.int .u64 s.xmin) ∧ w.cell? ⟨g, i * 4 + 2, none⟩ = some (.int .u64 s.xmax) ∧ w.cell? ⟨g, i * 4 + 3, none⟩ = some (.slice ra s.run.length rc) := by
  obtain ⟨g', cap', hsv, c0, c1, c2, ⟨ra', rc', c3, h2⟩, _, _⟩ := h.at hi
  simp only [Value.slice.injEq, Option.some.injEq, Addr.mk.injEq] at hsv
  obtain ⟨⟨rfl, _⟩, _, rfl⟩ := hsv
  rw [hv] at c0 c1 c2 c3 h2
  simp only at c0 c1 c2 c3 h2
  rw [← h2] at c3
  exact ⟨c0, c1, c2, c3⟩
theorem Snaps.run {k : Nat} (h : Snaps c k w sv ss) {i : Nat} (hi : i < ss.length) {s : Snp} {rv : Value} (hv : ss[i] = (s, rv)) : Run w rv s.run := by
  have := (h.2.2.1 _ (List.getElem_mem hi)).1
  rw [hv] at this; exact this
theorem ents_nil (T : List (Nat × Ent × Value)) : (ents T []).map (·.2) = T.map (·.2.1) := by simp [ents]
theorem line_create {cv : Value} (h : Line w0 c w pl p L tv iv T I last sv ss) {s : Snp} (hr : Run w rv s.run) (name : ByteArray) (hsz : name.size ≤ 4611686018427387904) (hc : ColsAt w cv) (hn : isName name = true)
    (hE : takenE 1 L s name ((ents T I).map (·.2)) 0 = 0) (hT : T.length < 16) (hlast : last < 1099511627776) :
    Calls Try.prog 48 #[.pointer (some ⟨p, 0, none⟩), .pointer (some ⟨pl, 0, none⟩), s.val rv, .string name, cv] w fun r w' => r = .returned (.tuple #[.int .u64 (last + 1), .int .i64 0]) ∧
      ∃ c' v' bt cv', Line w0 c' w' pl p L v' iv (T ++ [(bt, ⟨last + 1, name, s.own, 0⟩, cv')]) I (last + 1) sv ss := by
  refine (desk_create h.d hr name hsz hc hn hE hT hlast).mono fun r w' ⟨h1, ⟨v', bt, cv', h2⟩, h3⟩ => ⟨h1, _, v', bt, cv', h2, ?_⟩
  have hold : ∀ b, b < w.heap.size → col c w.heap.size 2 b = c b := fun b hb => col_old hb
  have k := h.s.recol hold
  exact k.upd (h3.mono (T := fun b => col c w.heap.size 2 b = 2) (fun b hb e => (hold b hb).trans e)) (fun b e e2 => by omega)
/-- DropTable, of a table that is seen. -/
theorem line_drop (h : Line w0 c w pl p L tv iv T I last sv ss) {s : Snp} (hr : Run w rv s.run) (name : ByteArray) {t : Nat × Ent × Value} (hf : findT 1 L s name T = some t) :
    Calls Try.prog 52 #[.pointer (some ⟨p, 0, none⟩), .pointer (some ⟨pl, 0, none⟩), s.val rv, .string name] w fun r w' =>
      ((∃ e ∈ dropE 1 L s t I, freeE 1 L s e.xmin e.xmax ≠ 0) ∧ r = .returned (.tuple #[.int .u64 0, .int .i64 11]) ∧ Line w0 c w' pl p L tv iv T I last sv ss) ∨
      ((∀ e ∈ dropE 1 L s t I, freeE 1 L s e.xmin e.xmax = 0) ∧ r = .returned (.tuple #[.int .u64 t.2.1.id, .int .i64 0]) ∧ Line w0 c w' pl p L tv iv (endT (dropB 1 L s t I) s.own T) (endI (dropB 1 L s t I) s.own I) last sv ss) := by
  have hcol : ∀ b ∈ dropB 1 L s t I, c b = 2 := fun b hb => by
    rcases dropB_in (f := 1) (L := L) (s := s) h.d.b (findT_mem hf) b hb with e | e
    · obtain ⟨x, hx, rfl⟩ := List.mem_map.1 e
      exact (h.d.b.tabs x hx).2.1
    · obtain ⟨x, hx, rfl⟩ := List.mem_map.1 e
      exact (h.d.b.inds x hx).2
  refine (drop_some h.d.b h.d.l hr name hf).mono fun r w' hp => ?_
  rcases hp with ⟨h1, h2, h3⟩ | ⟨h1, h2, h3, h4⟩
  · exact .inl ⟨h1, h2, h.same h3⟩
  · have u : Upd (fun b => c b = 2) w w' := h4.mono (fun b _ hb => hcol b hb)
    exact .inr ⟨h1, h2, ⟨h.d.l.upd u (fun b e e2 => by omega), h3, h.d.col, h.d.below.trans (u.below h.d.below.size (fun b hb e => by have := h.d.col b hb; omega))⟩, h.s.upd u (fun b e e2 => by omega)⟩
end
end Go.Proofs.Ytdohkjpapmkhjaa
