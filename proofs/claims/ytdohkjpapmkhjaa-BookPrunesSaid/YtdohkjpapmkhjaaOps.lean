/-
  WHATEVER IS DONE TO A BOOK, it stays one, and its tables' numbers differ.
-/
import Derived.Test.YtdohkjpapmkhjaaFull
import Derived.Test.YtdohkjpapmkhjaaMkok
import Derived.Test.YtdohkjpapmkhjaaDropI
import Derived.Test.YtdohkjpapmkhjaaPrune
namespace Go.Proofs.Ytdohkjpapmkhjaa
open Go.RowKit

/-- The tables' numbers. -/
structure TIds (T : List (Nat × Ent × Value)) (last : Int) : Prop where
  once : (T.map fun t => t.2.1.id).Nodup
  pos : ∀ t ∈ T, 1 ≤ t.2.1.id ∧ t.2.1.id ≤ last
/-- A book whose tables' numbers differ. -/
def BookOk (c : Nat → Nat) (k : Nat) (w : World) (p : Nat) (n : Int) : Prop := ∃ tv iv T I last, BookAt c k w p tv iv T I last ∧ TIds T last ∧ last ≤ n
section
variable {c cl : Nat → Nat} {k kl p pl : Nat} {w w' : World} {tv iv cv : Value} {T : List (Nat × Ent × Value)} {I : List (Nat × Ent × Int)} {last n : Int} {f : Int} {L : List Nat}
theorem TIds.more (h : TIds T last) (bt : Nat) (nm : ByteArray) (a b : Int) (v : Value) (hl : 0 ≤ last) : TIds (T ++ [(bt, ⟨last + 1, nm, a, b⟩, v)]) (last + 1) := by
  refine ⟨?_, fun t ht => ?_⟩
  · rw [List.map_append, List.nodup_append]
    refine ⟨h.once, by simp, fun x hx y hy e => ?_⟩
    obtain ⟨t, ht, rfl⟩ := List.mem_map.1 hx
    have := (h.pos t ht).2
    simp at hy
    omega
  · rcases List.mem_append.1 ht with ht | ht
    · have := h.pos t ht; omega
    · obtain rfl := List.mem_singleton.1 ht
      simp only; omega
theorem TIds.up (h : TIds T last) {m : Int} (hm : last ≤ m) : TIds T m := ⟨h.once, fun t ht => by have := h.pos t ht; omega⟩
theorem TIds.filter (h : TIds T last) (d : Nat × Ent × Value → Bool) : TIds (T.filter d) last := ⟨h.once.sublist (List.filter_sublist.map _), fun t ht => h.pos t (List.mem_filter.1 ht).1⟩
theorem TIds.endT (h : TIds T last) (bs : List Nat) (own : Int) : TIds (Ytdohkjpapmkhjaa.endT bs own T) last := by
  have e : (Ytdohkjpapmkhjaa.endT bs own T).map (fun t => t.2.1.id) = T.map fun t => t.2.1.id := by
    unfold Ytdohkjpapmkhjaa.endT
    rw [List.map_map]
    apply List.map_congr_left
    intro t _
    simp only [Function.comp]
    split <;> rfl
  refine ⟨by rw [e]; exact h.once, fun t ht => ?_⟩
  have hm : t.2.1.id ∈ (Ytdohkjpapmkhjaa.endT bs own T).map (fun t => t.2.1.id) := List.mem_map.2 ⟨t, ht, rfl⟩
  rw [e] at hm
  obtain ⟨u, hu, e2⟩ := List.mem_map.1 hm
  rw [← e2]; exact h.pos u hu
theorem BookOk.same (h : BookOk c k w p n) (u : Below w.heap.size w w') : BookOk (col c w.heap.size k) k w' p (n + 1) := by
  obtain ⟨tv, iv, T, I, last, h1, h2, h3⟩ := h
  exact ⟨tv, iv, T, I, last, (h1.recol (fun b hb => col_old hb)).same u, h2, by omega⟩

theorem BookAt.recolk {c' : Nat → Nat} (h : BookAt c k w p tv iv T I last) (hc : ∀ b, c b = k → c' b = k) : BookAt c' k w p tv iv T I last :=
  ⟨h.blk, h.trow, h.irow, hc _ h.cp, fun g hg => hc _ (h.ct g hg), fun g hg => hc _ (h.ci g hg), fun t ht => ⟨(h.tabs t ht).1, hc _ (h.tabs t ht).2.1, fun g hg => hc _ ((h.tabs t ht).2.2 g hg)⟩, fun t ht => ⟨(h.inds t ht).1, hc _ (h.inds t ht).2⟩, h.tonce, h.ionce, h.tlen, h.ilen, h.lo, h.hi⟩
theorem col_keep {n k b : Nat} (h : c b = k) : col c n k b = k := by
  by_cases e : b < n
  · rw [col_old e]; exact h
  · exact col_new (by omega)
/-- CreateTable. -/
theorem create_any (h : BookOk c k w p n) (hn : n < 1099511627776) (hl : LogAt cl kl w pl f L) {s : Snp} {rv : Value} (hr : Run w rv s.run) (name : ByteArray) (hsz : name.size ≤ 4611686018427387904) (hc : ColsAt w cv) :
    Calls Try.prog 48 #[.pointer (some ⟨p, 0, none⟩), .pointer (some ⟨pl, 0, none⟩), s.val rv, .string name, cv] w fun r w' => (∃ a b, r = .returned (.tuple #[.int .u64 a, .int .i64 b])) ∧ BookOk (col c w.heap.size k) k w' p (n + 1) ∧ Upd (fun b => c b = k) w w' := by
  have h' := h
  obtain ⟨tv, iv, T, I, last, h1, h2, h3⟩ := h
  by_cases hnm : isName name = true
  · by_cases hE : takenE f L s name ((ents T I).map (·.2)) 0 = 0
    · by_cases hT : T.length < 16
      · refine (create_ok h1 hl hr name hsz hc hnm hE hT (by omega)).mono fun r w' ⟨e, v', bt, cv', hb, hu⟩ => ⟨⟨_, _, e⟩, ⟨_, _, _, _, _, hb, h2.more _ _ _ _ _ h1.lo, by omega⟩, hu⟩
      · exact (create_full h1 hl hr name hsz hc hnm hE (by omega)).mono fun r w' ⟨e, hb⟩ => ⟨⟨_, _, e⟩, h'.same hb, Upd.same hb⟩
    · exact (create_taken h1 hl hr name hsz hc hnm _ rfl hE).mono fun r w' ⟨e, hb⟩ => ⟨⟨_, _, e⟩, h'.same hb, Upd.same hb⟩
  · exact (create_form h1 hr name hsz hc (by simpa using hnm)).mono fun r w' ⟨e, hb⟩ => ⟨⟨_, _, e⟩, h'.same hb, Upd.same hb⟩
/-- CreateIndex. -/
theorem mkind_any (h : BookOk c k w p n) (hn : n < 1099511627776) (hl : LogAt cl kl w pl f L) {s : Snp} {rv : Value} (hr : Run w rv s.run) (name ofn : ByteArray) (hsz : name.size ≤ 4611686018427387904) :
    Calls Try.prog 53 #[.pointer (some ⟨p, 0, none⟩), .pointer (some ⟨pl, 0, none⟩), s.val rv, .string name, .string ofn, .string nameA] w fun r w' => (∃ a b, r = .returned (.tuple #[a, b])) ∧ BookOk (col c w.heap.size k) k w' p (n + 1) ∧ Upd (fun b => c b = k) w w' := by
  have h' := h
  obtain ⟨tv, iv, T, I, last, h1, h2, h3⟩ := h
  by_cases hnm : isName name = true
  · cases hf : findT f L s ofn T with
    | none => exact (mkind_none h1 hl hr name ofn hsz hnm hf).mono fun r w' ⟨e, hb⟩ => ⟨⟨_, _, e⟩, h'.same hb, Upd.same hb⟩
    | some t =>
      by_cases hE : takenE f L s name ((ents T I).map (·.2)) 0 = 0
      · by_cases hI : I.length < 16
        · exact (mkind_ok h1 hl hr name ofn hsz hnm hf hE hI (by omega)).mono fun r w' ⟨e, v', bt, hb, hu⟩ => ⟨⟨_, _, e⟩, ⟨_, _, _, _, _, hb, h2.up (by omega), by omega⟩, hu⟩
        · exact (mkind_full h1 hl hr name ofn hsz hnm hf hE (by omega)).mono fun r w' ⟨e, hb⟩ => ⟨⟨_, _, e⟩, h'.same hb, Upd.same hb⟩
      · exact (mkind_taken h1 hl hr name ofn hsz hnm hf _ rfl hE).mono fun r w' ⟨e, hb⟩ => ⟨⟨_, _, e⟩, h'.same hb, Upd.same hb⟩
  · exact (mkind_form hr name ofn hsz (by simpa using hnm)).mono fun r w' ⟨e, hb⟩ => ⟨⟨_, _, e⟩, h'.same hb, Upd.same hb⟩
/-- DropTable. -/
theorem drop_any (h : BookOk c k w p n) (hl : LogAt cl kl w pl f L) {s : Snp} {rv : Value} (hr : Run w rv s.run) (name : ByteArray) :
    Calls Try.prog 52 #[.pointer (some ⟨p, 0, none⟩), .pointer (some ⟨pl, 0, none⟩), s.val rv, .string name] w fun r w' => (∃ a b, r = .returned (.tuple #[a, b])) ∧ BookOk (col c w.heap.size k) k w' p (n + 1) ∧ Upd (fun b => c b = k) w w' := by
  have h' := h
  obtain ⟨tv, iv, T, I, last, h1, h2, h3⟩ := h
  cases hf : findT f L s name T with
  | none => exact (drop_none h1 hl hr name hf).mono fun r w' ⟨e, hb⟩ => ⟨⟨_, _, e⟩, h'.same hb, Upd.same hb⟩
  | some t =>
    refine (drop_some h1 hl hr name hf).mono fun r w' hp => ?_
    rcases hp with ⟨_, e, hb⟩ | ⟨_, e, hb, hu⟩
    · exact ⟨⟨_, _, e⟩, h'.same hb, Upd.same hb⟩
    · refine ⟨⟨_, _, e⟩, ⟨_, _, _, _, _, hb.recolk (fun b hb => col_keep hb), h2.endT _ _, by omega⟩, hu.mono (fun b _ hm => ?_)⟩
      rcases dropB_in h1 (findT_mem hf) b hm with hm | hm
      · obtain ⟨x, hx, rfl⟩ := List.mem_map.1 hm
        exact (h1.tabs x hx).2.1
      · obtain ⟨x, hx, rfl⟩ := List.mem_map.1 hm
        exact (h1.inds x hx).2
/-- DropIndex. -/
theorem dropi_any (h : BookOk c k w p n) (hl : LogAt cl kl w pl f L) {s : Snp} {rv : Value} (hr : Run w rv s.run) (name : ByteArray) :
    Calls Try.prog 56 #[.pointer (some ⟨p, 0, none⟩), .pointer (some ⟨pl, 0, none⟩), s.val rv, .string name] w fun r w' => (∃ r', r = .returned r') ∧ BookOk (col c w.heap.size k) k w' p (n + 1) ∧ Upd (fun b => c b = k) w w' := by
  obtain ⟨tv, iv, T, I, last, h1, h2, h3⟩ := h
  refine (dropi_at h1 hl hr name).mono fun r w' ⟨r', T', I', e, hb, hu, hT⟩ => ⟨⟨_, e⟩, ⟨_, _, _, _, _, hb.recolk (fun b hb => col_keep hb), ?_, by omega⟩, hu⟩
  rcases hT with rfl | ⟨bs, own, rfl⟩
  · exact h2
  · exact h2.endT _ _
end
end Go.Proofs.Ytdohkjpapmkhjaa
