/-
  slices.DeleteFunc of a row of pointers that may be nil; what is kept, told of lists; a book that was pruned.
-/
import Derived.Test.YtdohkjpapmkhjaaDel
import Derived.Test.YtdohkjpapmkhjaaClosI
namespace Go.Proofs.Ytdohkjpapmkhjaa
open Go.RowKit

theorem delete_nil_tab (F : Value) (w : World) : Calls Try.prog 74 #[.slice none 0 0, F] w fun r w' => r = .returned (.slice none 0 0) ∧ w = w' := by
  have hi : Calls Try.prog 83 #[.slice none 0 0, F] w fun r w' => r = .returned (.int .i64 (-1)) ∧ w = w' := by
    go_enter Try.func83, Try.ntmps83
    go_wp2_with fail
    go_loopw [8] (fun iv wr => iv = .int .i64 0 ∧ wr = w) (fun _ _ => 0)
    case atStart => exact ⟨rfl, rfl⟩
    case round =>
      obtain ⟨rfl, rfl⟩ := hrel
      go_wp2_with fail
      go_ret
      exact ⟨rfl, rfl⟩
  have HI := Lib.hid hi
  clear hi
  go_enter Try.func74, Try.ntmps74
  go_wp2_with fail
  refine HI.out.mono ?_
  rintro r w1 ⟨rfl, rfl⟩
  go_wp2_with fail
  go_ret
  exact ⟨rfl, rfl⟩
/-- slices.DeleteFunc, of a row that may be nil. -/
theorem delete_any_tab {w : World} {q1 q2 q3 : Nat} {sv : Value} {bs : List Nat} {dd : Nat → Bool} {idf : Nat → Int} {Inv : World → List Int → Prop} {S : Nat → Prop} (hcl : ∀ (w' : World) (ids : List Int) (i : Nat) (hi : i < bs.length), ids.length ≤ i → Inv w' ids → Calls Try.prog 75 #[.pointer (some ⟨bs[i], 0, none⟩), .pointer (some ⟨q1, 0, none⟩), .pointer (some ⟨q2, 0, none⟩), .pointer (some ⟨q3, 0, none⟩)] w' fun r w'' => r = .returned (.bool (dd i)) ∧ Inv w'' (if dd i = true then ids ++ [idf i] else ids) ∧ Upd S w' w'')
    (hset : ∀ g, sv.ownBlock = some g → ∀ (w' : World) (ids : List Int) (j : Nat) (v : Value), Inv w' ids → Inv (w'.setCell ⟨g, j, none⟩ v) ids) (hS : ∀ g, sv.ownBlock = some g → ¬ S g) (hrow : w.ownsRow 0 140 1 sv bs.length (ptrs bs)) (hn : bs.length ≤ 1000) (h0 : Inv w []) :
    Calls Try.prog 74 #[sv, .func (.func 75) #[] #[.pointer (some ⟨q1, 0, none⟩), .pointer (some ⟨q2, 0, none⟩), .pointer (some ⟨q3, 0, none⟩)]] w fun r w' => ∃ v', r = .returned v' ∧ w'.ownsRow 0 140 1 v' (kept bs dd bs.length).length (ptrs (kept bs dd bs.length)) ∧ (∀ g, v'.ownBlock = some g → sv.ownBlock = some g) ∧ Inv w' (gone idf dd bs.length) ∧ Upd (fun b => S b ∨ sv.ownBlock = some b) w w' := by
  rcases hrow.2 with ⟨rfl, h⟩ | ⟨g, cap, cur, rfl, _⟩
  · obtain rfl : bs = [] := List.eq_nil_of_length_eq_zero h
    exact (delete_nil_tab _ w).mono fun r w' ⟨h1, h2⟩ => ⟨_, h1, World.ownsRow_nil _ _ _ _, (fun g hg => hg), by rw [← h2]; exact h0, by rw [← h2]; exact Upd.refl _ _⟩
  · refine (delete_tab hcl (hset g rfl) (hS g rfl) hrow hn h0).mono fun r w' ⟨h1, h2, h3, h4⟩ => ⟨_, h1, h2, fun g' hg => hg, h3, h4.mono (fun b _ e => e.imp id (fun e => by rw [e]; rfl))⟩

theorem delete_nil_ind (F : Value) (w : World) : Calls Try.prog 77 #[.slice none 0 0, F] w fun r w' => r = .returned (.slice none 0 0) ∧ w = w' := by
  have hi : Calls Try.prog 84 #[.slice none 0 0, F] w fun r w' => r = .returned (.int .i64 (-1)) ∧ w = w' := by
    go_enter Try.func84, Try.ntmps84
    go_wp2_with fail
    go_loopw [8] (fun iv wr => iv = .int .i64 0 ∧ wr = w) (fun _ _ => 0)
    case atStart => exact ⟨rfl, rfl⟩
    case round =>
      obtain ⟨rfl, rfl⟩ := hrel
      go_wp2_with fail
      go_ret
      exact ⟨rfl, rfl⟩
  have HI := Lib.hid hi
  clear hi
  go_enter Try.func77, Try.ntmps77
  go_wp2_with fail
  refine HI.out.mono ?_
  rintro r w1 ⟨rfl, rfl⟩
  go_wp2_with fail
  go_ret
  exact ⟨rfl, rfl⟩
/-- slices.DeleteFunc, of a row that may be nil. -/
theorem delete_any_ind {w : World} {q1 q2 q3 q4 : Nat} {sv : Value} {bs : List Nat} {dd : Nat → Bool} {idf : Nat → Int} {Inv : World → List Int → Prop} {S : Nat → Prop} (hcl : ∀ (w' : World) (ids : List Int) (i : Nat) (hi : i < bs.length), ids.length ≤ i → Inv w' ids → Calls Try.prog 78 #[.pointer (some ⟨bs[i], 0, none⟩), .pointer (some ⟨q1, 0, none⟩), .pointer (some ⟨q2, 0, none⟩), .pointer (some ⟨q3, 0, none⟩), .pointer (some ⟨q4, 0, none⟩)] w' fun r w'' => r = .returned (.bool (dd i)) ∧ Inv w'' (if dd i = true then ids ++ [idf i] else ids) ∧ Upd S w' w'')
    (hset : ∀ g, sv.ownBlock = some g → ∀ (w' : World) (ids : List Int) (j : Nat) (v : Value), Inv w' ids → Inv (w'.setCell ⟨g, j, none⟩ v) ids) (hS : ∀ g, sv.ownBlock = some g → ¬ S g) (hrow : w.ownsRow 0 153 1 sv bs.length (ptrs bs)) (hn : bs.length ≤ 1000) (h0 : Inv w []) :
    Calls Try.prog 77 #[sv, .func (.func 78) #[] #[.pointer (some ⟨q1, 0, none⟩), .pointer (some ⟨q2, 0, none⟩), .pointer (some ⟨q3, 0, none⟩), .pointer (some ⟨q4, 0, none⟩)]] w fun r w' => ∃ v', r = .returned v' ∧ w'.ownsRow 0 153 1 v' (kept bs dd bs.length).length (ptrs (kept bs dd bs.length)) ∧ (∀ g, v'.ownBlock = some g → sv.ownBlock = some g) ∧ Inv w' (gone idf dd bs.length) ∧ Upd (fun b => S b ∨ sv.ownBlock = some b) w w' := by
  rcases hrow.2 with ⟨rfl, h⟩ | ⟨g, cap, cur, rfl, _⟩
  · obtain rfl : bs = [] := List.eq_nil_of_length_eq_zero h
    exact (delete_nil_ind _ w).mono fun r w' ⟨h1, h2⟩ => ⟨_, h1, World.ownsRow_nil _ _ _ _, (fun g hg => hg), by rw [← h2]; exact h0, by rw [← h2]; exact Upd.refl _ _⟩
  · refine (delete_ind hcl (hset g rfl) (hS g rfl) hrow hn h0).mono fun r w' ⟨h1, h2, h3, h4⟩ => ⟨_, h1, h2, fun g' hg => hg, h3, h4.mono (fun b _ e => e.imp id (fun e => by rw [e]; rfl))⟩

theorem kept_filter {α : Type} (l : List α) (fst : α → Nat) (d : α → Bool) : ∀ n, n ≤ l.length → kept (l.map fst) (fun i => (l[i]?.map d).getD false) n = ((l.take n).filter fun a => !d a).map fst
  | 0, _ => rfl
  | n + 1, h => by
    rw [kept_succ, kept_filter l fst d n (by omega), List.take_succ_eq_append_getElem (by omega), List.filter_append, List.map_append]
    have e : l[n]? = some l[n] := List.getElem?_eq_getElem (by omega)
    cases hd : d l[n] <;> simp [e, hd]
theorem gone_filter {α : Type} (l : List α) (g : α → Int) (d : α → Bool) : ∀ n, n ≤ l.length → gone (fun i => (l[i]?.map g).getD 0) (fun i => (l[i]?.map d).getD false) n = ((l.take n).filter d).map g
  | 0, _ => rfl
  | n + 1, h => by
    rw [gone_succ, gone_filter l g d n (by omega), List.take_succ_eq_append_getElem (by omega), List.filter_append, List.map_append]
    have e : l[n]? = some l[n] := List.getElem?_eq_getElem (by omega)
    cases hd : d l[n] <;> simp [e, hd]

section
variable {c : Nat → Nat} {k p : Nat} {w w' : World} {tv iv : Value} {T : List (Nat × Ent × Value)} {I : List (Nat × Ent × Int)} {last : Int}
/-- A book whose slices have become shorter. -/
theorem BookAt.pruned (h : BookAt c k w p tv iv T I last) (u : Upd (fun b => b = p ∨ tv.ownBlock = some b ∨ iv.ownBlock = some b ∨ w.heap.size ≤ b) w w') {v' v'' : Value} {dT : Nat × Ent × Value → Bool} {dI : Nat × Ent × Int → Bool}
    (hblk : w'.heap[p]? = some (.cells #[v', v'', .int .u64 last] 137 (0, 0))) (ht : w'.ownsRow 0 140 1 v' (T.filter dT).length (ptrs ((T.filter dT).map (·.1)))) (hi : w'.ownsRow 0 153 1 v'' (I.filter dI).length (ptrs ((I.filter dI).map (·.1))))
    (hv' : ∀ g, v'.ownBlock = some g → tv.ownBlock = some g) (hv'' : ∀ g, v''.ownBlock = some g → iv.ownBlock = some g) : BookAt c k w' p v' v'' (T.filter dT) (I.filter dI) last := by
  have nb : ∀ {b X : Nat} {x : Array Value} {f : Nat × Nat}, w.heap[b]? = some (.cells x X f) → X ≠ 137 → X ≠ 140 → X ≠ 153 → ¬ (b = p ∨ tv.ownBlock = some b ∨ iv.ownBlock = some b ∨ w.heap.size ≤ b) := fun hb h1 h2 h3 e => by
    rcases e with e | e | e | e
    · exact block_ne hb h.blk h1 e
    · obtain ⟨cu, k1⟩ := row_block h.trow e
      exact block_ne hb k1 h2 rfl
    · obtain ⟨cu, k1⟩ := row_block h.irow e
      exact block_ne hb k1 h3 rfl
    · have := lt_of_block hb; omega
  refine ⟨hblk, ht, hi, h.cp, fun g hg => h.ct g (hv' g hg), fun g hg => h.ci g (hv'' g hg), fun t hm => ?_, fun t hm => ?_, h.tonce.sublist (List.filter_sublist.map _), h.ionce.sublist (List.filter_sublist.map _), Nat.le_trans (List.length_filter_le _ _) h.tlen, Nat.le_trans (List.length_filter_le _ _) h.ilen, h.lo, h.hi⟩
  · obtain ⟨h1, h2⟩ := h.tabs t (List.mem_filter.1 hm).1
    refine ⟨⟨u.heap h1.1 (nb h1.1 (by decide) (by decide) (by decide)), h1.2.upd u (fun b hb => ?_)⟩, h2⟩
    obtain ⟨cu, k1⟩ := row_block h1.2 hb
    exact nb k1 (by decide) (by decide) (by decide)
  · obtain ⟨h1, h2⟩ := h.inds t (List.mem_filter.1 hm).1
    exact ⟨u.heap h1 (nb h1 (by decide) (by decide) (by decide)), h2⟩
end
end Go.Proofs.Ytdohkjpapmkhjaa
