/-
  slices.IndexFunc, slices.DeleteFunc over rows of pointers: those that a closure tells dead.
-/
import Derived.Test.YtdohkjpapmkhjaaCreate
import Derived.Lib.SliceRun
import Derived.IntWalk
namespace Go.Proofs.Ytdohkjpapmkhjaa
open Go.RowKit

/-- Those of the first n that are not dead. -/
def kept (bs : List Nat) (dd : Nat → Bool) (n : Nat) : List Nat := ((List.range n).filter fun i => !dd i).map fun i => bs.getD i 0
/-- What the dead among the first n are called. -/
def gone (idf : Nat → Int) (dd : Nat → Bool) (n : Nat) : List Int := ((List.range n).filter fun i => dd i).map idf
section
variable {bs : List Nat} {dd : Nat → Bool} {idf : Nat → Int} {n : Nat}
theorem kept_succ (bs : List Nat) (dd : Nat → Bool) (n : Nat) : kept bs dd (n + 1) = if dd n = true then kept bs dd n else kept bs dd n ++ [bs.getD n 0] := by
  unfold kept
  rw [List.range_succ, List.filter_append, List.map_append]
  cases h : dd n <;> simp [h]
theorem gone_succ (idf : Nat → Int) (dd : Nat → Bool) (n : Nat) : gone idf dd (n + 1) = if dd n = true then gone idf dd n ++ [idf n] else gone idf dd n := by
  unfold gone
  rw [List.range_succ, List.filter_append, List.map_append]
  cases h : dd n <;> simp [h]
theorem kept_le (bs : List Nat) (dd : Nat → Bool) (n : Nat) : (kept bs dd n).length ≤ n := by
  unfold kept
  rw [List.length_map]
  exact Nat.le_trans (List.length_filter_le _ _) (by simp)
theorem gone_le (idf : Nat → Int) (dd : Nat → Bool) (n : Nat) : (gone idf dd n).length ≤ n := by
  unfold gone
  rw [List.length_map]
  exact Nat.le_trans (List.length_filter_le _ _) (by simp)
theorem kept_take (h : ∀ i, i < n → dd i = false) (hn : n ≤ bs.length) : kept bs dd n = bs.take n := by
  induction n with
  | zero => rfl
  | succ n ih =>
    rw [kept_succ, if_neg (by rw [h n (by omega)]; decide), ih (fun i hi => h i (by omega)) (by omega), List.take_succ_eq_append_getElem (by omega)]
    simp [show n < bs.length by omega]
theorem kept_all (h : ∀ i, i < bs.length → dd i = false) : kept bs dd bs.length = bs := by rw [kept_take h (Nat.le_refl _), List.take_length]
theorem gone_none (h : ∀ i, i < n → dd i = false) : gone idf dd n = [] := by
  induction n with
  | zero => rfl
  | succ n ih => rw [gone_succ, if_neg (by rw [h n (by omega)]; decide), ih (fun i hi => h i (by omega))]
end
theorem ownsRow_sets {base e n g cap : Nat} : ∀ (vs : List Value) (o : Nat) {w : World} {xs : List Value}, w.ownsRow base e 1 (.slice (some ⟨g, 0, none⟩) n cap) n xs → o + vs.length ≤ n →
    (w.setCells g o vs).ownsRow base e 1 (.slice (some ⟨g, 0, none⟩) n cap) n (xs.take o ++ vs ++ xs.drop (o + vs.length))
  | [], o, w, xs, h, _ => by simpa [World.setCells] using h
  | v :: r, o, w, xs, h, hl => by
    have hx : xs.length = n := by have := h.1; simpa using this
    have h1 := ownsRow_set1 (j := o) h v
    have h2 := ownsRow_sets r (o + 1) h1 (by simp at hl; omega)
    have e1 : (xs.set o v).take (o + 1) = xs.take o ++ [v] := by
      rw [List.take_succ_eq_append_getElem (by simp at hl; rw [List.length_set]; omega), List.take_set_of_le (Nat.le_refl _)]
      simp
    have e2 : (xs.set o v).drop (o + 1 + r.length) = xs.drop (o + (v :: r).length) := by
      rw [List.drop_set_of_lt (by omega), List.length_cons, show o + 1 + r.length = o + (r.length + 1) by omega]
    rw [e1, e2] at h2
    simpa [World.setCells] using h2
theorem ownsRow_take {w : World} {base e n g cap : Nat} {xs : List Value} (h : w.ownsRow base e 1 (.slice (some ⟨g, 0, none⟩) n cap) n xs) {k : Nat} (hk : k ≤ n) : w.ownsRow base e 1 (.slice (some ⟨g, 0, none⟩) k cap) k (xs.take k) := by
  refine ⟨by have := h.1; simp at this; simp; omega, ?_⟩
  rcases h.2 with ⟨e1, _⟩ | ⟨g1, cap1, cur, e1, hb, hh, hn, hm, hc, ht⟩
  · cases e1
  · simp only [Value.slice.injEq, Option.some.injEq, Addr.mk.injEq] at e1
    obtain ⟨⟨rfl, _⟩, _, rfl⟩ := e1
    exact .inr ⟨g, cap, cur, rfl, hb, hh, by omega, hm, hc, by rw [← ht, List.take_take]; congr 1; omega⟩
theorem Upd.sets {S : Nat → Prop} {g : Nat} : ∀ (vs : List Value) (o : Nat) {w0 w : World}, Upd S w0 w → (g < w0.heap.size → S g) → Upd S w0 (w.setCells g o vs)
  | [], _, _, _, h, _ => h
  | v :: r, o, _, _, h, hs => Upd.sets r (o + 1) (h.setCell (a := ⟨g, o, none⟩) v hs) hs
theorem inv_sets {Inv : World → List Int → Prop} {g : Nat} {ids : List Int} (hset : ∀ (w' : World) (j : Nat) (v : Value), Inv w' ids → Inv (w'.setCell ⟨g, j, none⟩ v) ids) : ∀ (vs : List Value) (o : Nat) (w : World), Inv w ids → Inv (w.setCells g o vs) ids
  | [], _, _, h => h
  | v :: r, o, w, h => inv_sets hset r (o + 1) _ (hset w o v h)

set_option maxHeartbeats 2000000 in
set_option maxRecDepth 100000 in
/-- slices.IndexFunc: the first that is dead. -/
theorem indexf_tab {w : World} {g cap q1 q2 q3 : Nat} {bs : List Nat} {dd : Nat → Bool} {idf : Nat → Int} {Inv : World → List Int → Prop} {S : Nat → Prop} (hcl : ∀ (w' : World) (ids : List Int) (i : Nat) (hi : i < bs.length), ids.length ≤ i → Inv w' ids → Calls Try.prog 75 #[.pointer (some ⟨bs[i], 0, none⟩), .pointer (some ⟨q1, 0, none⟩), .pointer (some ⟨q2, 0, none⟩), .pointer (some ⟨q3, 0, none⟩)] w' fun r w'' => r = .returned (.bool (dd i)) ∧ Inv w'' (if dd i = true then ids ++ [idf i] else ids) ∧ Upd S w' w'') (hS : ¬ S g) (hrow : w.ownsRow 0 140 1 (.slice (some ⟨g, 0, none⟩) bs.length cap) bs.length (ptrs bs)) (hn : bs.length ≤ 1000) (h0 : Inv w []) :
    Calls Try.prog 83 #[.slice (some ⟨g, 0, none⟩) bs.length cap, .func (.func 75) #[] #[.pointer (some ⟨q1, 0, none⟩), .pointer (some ⟨q2, 0, none⟩), .pointer (some ⟨q3, 0, none⟩)]] w fun r w' =>
      (r = .returned (.int .i64 (-1)) ∧ (∀ i, i < bs.length → dd i = false) ∧ Inv w' [] ∧ Upd S w w') ∨ (∃ i : Nat, i < bs.length ∧ r = .returned (.int .i64 (i : Int)) ∧ (∀ j, j < i → dd j = false) ∧ dd i = true ∧ Inv w' [idf i] ∧ Upd S w w') := by
  have HCL := Lib.hid hcl; have HS := Lib.hid hS; have HROW := Lib.hid hrow
  clear hcl hS hrow
  go_enter Try.func83, Try.ntmps83
  go_wp2_with fail
  go_loopw [8] (fun iv wr => ∃ i : Nat, i ≤ bs.length ∧ iv = .int .i64 (i : Int) ∧ Hid (∀ j, j < i → dd j = false) ∧ Inv wr [] ∧ Upd S w wr) (fun iv _ => bs.length - (intOf iv).toNat)
  case atStart => exact ⟨0, Nat.zero_le _, rfl, Lib.hid (fun j hj => by omega), h0, Upd.refl _ _⟩
  case round =>
    clear h0
    obtain ⟨i, hi, rfl, HB, hI, hU⟩ := hrel
    by_cases hlt : i < bs.length
    · have hr := ownsRow_upd HROW.out hU (fun b hb e => HS.out (by simp only [Value.ownBlock, Option.some.injEq] at hb; subst hb; exact e))
      obtain ⟨g', cap', e1, x0⟩ := ptrs_at hr hlt
      simp only [Value.slice.injEq, Option.some.injEq, Addr.mk.injEq] at e1
      obtain ⟨⟨rfl, _⟩, _, rfl⟩ := e1
      have hc := HCL.out wr [] i hlt (Nat.zero_le _) hI
      obtain ⟨b, hb⟩ : ∃ b, b = bs[i] := ⟨_, rfl⟩
      obtain ⟨d, hd⟩ : ∃ d, d = dd i := ⟨_, rfl⟩
      rw [← hb] at x0
      rw [← hb, ← hd] at hc
      have HC := Lib.hid hc; have HD := Lib.hid hd
      have a1 : (0 : Int) ≤ (i : Int) := by omega
      have a2 : (i : Int) < (bs.length : Int) := by omega
      clear hc hb hd hr
      go_wp2_with fail
      refine HC.out.mono ?_
      rintro r w1 ⟨rfl, hI1, hU1⟩
      cases d with
      | true =>
        have hI2 : Inv w1 [idf i] := by simpa using hI1
        have HI2 := Lib.hid hI2
        clear hI1 hI2 hI
        go_wp2_with fail
        go_ret
        exact .inr ⟨i, hlt, rfl, HB.out, HD.out.symm, HI2.out, hU.trans hU1⟩
      | false =>
        have hI2 : Inv w1 [] := by simpa using hI1
        have HI2 := Lib.hid hI2
        clear hI1 hI2 hI
        go_wp2_with fail
        go_roundw
        case rel => exact ⟨i + 1, by omega, by go_num, Lib.hid (fun j hj => by
          by_cases e : j = i
          · subst e; exact HD.out.symm
          · exact HB.out j (by omega)), HI2.out, hU.trans hU1⟩
        case measure => simp [intOf]; omega
    · have hil : i = bs.length := by omega
      subst hil
      have HI := Lib.hid hI
      have a2 : ¬ (bs.length : Int) < (bs.length : Int) := by omega
      clear hI
      go_wp2_with fail
      go_ret
      exact .inl ⟨rfl, HB.out, HI.out, hU⟩

set_option maxHeartbeats 4000000 in
set_option maxRecDepth 100000 in
/-- slices.DeleteFunc: those that are dead are no more. -/
theorem delete_tab {w : World} {g cap q1 q2 q3 : Nat} {bs : List Nat} {dd : Nat → Bool} {idf : Nat → Int} {Inv : World → List Int → Prop} {S : Nat → Prop} (hcl : ∀ (w' : World) (ids : List Int) (i : Nat) (hi : i < bs.length), ids.length ≤ i → Inv w' ids → Calls Try.prog 75 #[.pointer (some ⟨bs[i], 0, none⟩), .pointer (some ⟨q1, 0, none⟩), .pointer (some ⟨q2, 0, none⟩), .pointer (some ⟨q3, 0, none⟩)] w' fun r w'' => r = .returned (.bool (dd i)) ∧ Inv w'' (if dd i = true then ids ++ [idf i] else ids) ∧ Upd S w' w'') (hset : ∀ (w' : World) (ids : List Int) (j : Nat) (v : Value), Inv w' ids → Inv (w'.setCell ⟨g, j, none⟩ v) ids) (hS : ¬ S g) (hrow : w.ownsRow 0 140 1 (.slice (some ⟨g, 0, none⟩) bs.length cap) bs.length (ptrs bs)) (hn : bs.length ≤ 1000) (h0 : Inv w []) :
    Calls Try.prog 74 #[.slice (some ⟨g, 0, none⟩) bs.length cap, .func (.func 75) #[] #[.pointer (some ⟨q1, 0, none⟩), .pointer (some ⟨q2, 0, none⟩), .pointer (some ⟨q3, 0, none⟩)]] w fun r w' => r = .returned (.slice (some ⟨g, 0, none⟩) (kept bs dd bs.length).length cap) ∧
      w'.ownsRow 0 140 1 (.slice (some ⟨g, 0, none⟩) (kept bs dd bs.length).length cap) (kept bs dd bs.length).length (ptrs (kept bs dd bs.length)) ∧ Inv w' (gone idf dd bs.length) ∧ Upd (fun b => S b ∨ b = g) w w' := by
  have hix := indexf_tab hcl hS hrow hn h0
  have HIX := Lib.hid hix; have HCL := Lib.hid hcl; have HS := Lib.hid hS; have HROW := Lib.hid hrow; have HSET := Lib.hid hset
  clear hix hcl hS hrow hset h0
  go_enter Try.func74, Try.ntmps74
  go_wp2_with fail
  refine HIX.out.mono ?_
  rintro r w1 (⟨rfl, hall, hI, hU⟩ | ⟨i, hi, rfl, hno, hyes, hI, hU⟩)
  · have hk : kept bs dd bs.length = bs := kept_all hall
    have hg : gone idf dd bs.length = [] := gone_none hall
    have HI := Lib.hid hI; have HK := Lib.hid hk; have HG := Lib.hid hg
    have hr := ownsRow_upd HROW.out hU (fun b hb e => HS.out (by simp only [Value.ownBlock, Option.some.injEq] at hb; subst hb; exact e))
    have HR := Lib.hid hr
    clear hall hI hk hg hr
    go_wp2_with fail
    go_ret
    exact ⟨by rw [HK.out]; rfl, by rw [HK.out]; exact HR.out, by rw [HG.out]; exact HI.out, hU.mono (fun b _ e => .inl e)⟩
  · have hk1 : kept bs dd (i + 1) = bs.take i := by rw [kept_succ, if_pos hyes, kept_take hno (by omega)]
    have hg1 : gone idf dd (i + 1) = [idf i] := by rw [gone_succ, if_pos hyes, gone_none hno]; rfl
    have hr := ownsRow_upd HROW.out hU (fun b hb e => HS.out (by simp only [Value.ownBlock, Option.some.injEq] at hb; subst hb; exact e))
    have hr1 : w1.ownsRow 0 140 1 (.slice (some ⟨g, 0, none⟩) bs.length cap) bs.length (ptrs (kept bs dd (i + 1)) ++ [ptr (bs.getD i 0)] ++ (ptrs bs).drop (i + 1)) := by
      have e : ptrs (kept bs dd (i + 1)) ++ [ptr (bs.getD i 0)] ++ (ptrs bs).drop (i + 1) = ptrs bs := by
        rw [hk1]
        unfold ptrs
        rw [← List.map_drop, show [ptr (bs.getD i 0)] = [bs[i]].map ptr from by simp [hi], ← List.map_append, ← List.map_append, ← List.take_succ_eq_append_getElem hi, List.take_append_drop]
      rw [e]; exact hr
    have hI1 : Inv w1 (gone idf dd (i + 1)) := by rw [hg1]; exact hI
    have hkl : (kept bs dd (i + 1)).length < i + 1 := by rw [hk1, List.length_take]; omega
    have hcap : bs.length ≤ cap := by
      rcases HROW.out.2 with ⟨e1, _⟩ | ⟨g1, cap1, cur, e1, _, _, hn1, _⟩
      · cases e1
      · simp only [Value.slice.injEq] at e1
        obtain ⟨_, _, rfl⟩ := e1
        exact hn1
    have HR1 := Lib.hid hr1; have HI1 := Lib.hid hI1
    have b1 : ¬ (i : Int) = -1 := by omega
    have hUw : Upd (fun b => S b ∨ b = g) w w1 := hU.mono (fun b _ e => .inl e)
    obtain ⟨k0, hk0⟩ : ∃ k0, k0 = i := ⟨_, rfl⟩
    have hki : (kept bs dd (i + 1)).length = i := by rw [hk1, List.length_take]; omega
    have HKI := Lib.hid hki
    clear hno hyes hk1 hg1 hr hr1 hI1 hI hU hk0 hki
    go_wp2_with fail
    generalize Value.bool ((i : Int) == -1) = z12
    go_loopw [5, 6] (fun kv jv wr => ∃ (k j : Nat) (G : List Value), kv = .int .i64 (k : Int) ∧ jv = .int .i64 (j : Int) ∧ k < j ∧ j ≤ bs.length ∧ Hid (k = (kept bs dd j).length ∧ G.length = j - k) ∧ Hid (wr.ownsRow 0 140 1 (.slice (some ⟨g, 0, none⟩) bs.length cap) bs.length (ptrs (kept bs dd j) ++ G ++ (ptrs bs).drop j)) ∧ Hid (Inv wr (gone idf dd j)) ∧ Upd (fun b => S b ∨ b = g) w wr) (fun _ jv _ => bs.length - (intOf jv).toNat)
    case atStart => exact ⟨i, i + 1, [ptr (bs.getD i 0)], rfl, by go_num, by omega, by omega, Lib.hid ⟨HKI.out.symm, by simp⟩, HR1, HI1, hUw⟩
    case round =>
      clear hUw
      obtain ⟨k, j, G, rfl, rfl, hkj, hj, HK, HR, HI, hUw⟩ := hrel
      by_cases hlt : j < bs.length
      · have hpl : (ptrs bs).length = bs.length := by simp [ptrs]
        have hdrop : (ptrs bs).drop j = ptr bs[j] :: (ptrs bs).drop (j + 1) := by
          rw [List.drop_eq_getElem_cons (by omega)]
          simp [ptrs]
        have hkpl : (ptrs (kept bs dd j)).length = k := by rw [HK.out.1]; simp [ptrs]
        have hrow := HR.out
        rw [hdrop] at hrow
        have hget : (ptrs (kept bs dd j) ++ G ++ ptr bs[j] :: (ptrs bs).drop (j + 1))[j]? = some (ptr bs[j]) := by
          have := HK.out.2
          rw [List.getElem?_append_right (by rw [List.length_append]; omega), List.length_append, hkpl, show j - (k + G.length) = 0 from by omega]
          rfl
        obtain ⟨g', cap', e1, x0, z0, _⟩ := ownsRow_cell1 hrow hget
        simp only [Value.slice.injEq, Option.some.injEq, Addr.mk.injEq] at e1
        obtain ⟨⟨rfl, _⟩, _, rfl⟩ := e1
        have hc := HCL.out wr _ j hlt (gone_le idf dd j) HI.out
        have hgd : bs.getD j 0 = bs[j] := by simp [hlt]
        have hks := kept_succ bs dd j
        have hgs := gone_succ idf dd j
        rw [hgd] at hks
        obtain ⟨b, hb⟩ : ∃ b, b = bs[j] := ⟨_, rfl⟩
        obtain ⟨d, hd⟩ : ∃ d, d = dd j := ⟨_, rfl⟩
        rw [← hb] at x0 hc hrow hks
        rw [← hd] at hc hks hgs
        have hx0 : wr.cell? ⟨g, j, none⟩ = some (.pointer (some ⟨b, 0, none⟩)) := x0
        have HC := Lib.hid hc; have HKS := Lib.hid hks; have HGS := Lib.hid hgs; have HROWJ := Lib.hid hrow; have HKPL := Lib.hid hkpl
        have a1 : (0 : Int) ≤ (j : Int) := by omega
        have a2 : (j : Int) < (bs.length : Int) := by omega
        have a3 : (0 : Int) ≤ (k : Int) := by omega
        have a4 : (k : Int) < (bs.length : Int) := by omega
        clear hc hb hd hks hgs hrow hget hdrop hgd x0 z0 hpl hkpl
        go_wp2_with fail
        refine HC.out.mono ?_
        rintro r w2 ⟨rfl, hI2, hU2⟩
        have hrow2 := ownsRow_upd HROWJ.out hU2 (fun b hb e => HS.out (by simp only [Value.ownBlock, Option.some.injEq] at hb; subst hb; exact e))
        have hU2w : Upd (fun b => S b ∨ b = g) w w2 := hUw.trans (hU2.mono (fun b _ e => .inl e))
        cases d with
        | true =>
          have HI2 := Lib.hid (show Inv w2 (gone idf dd (j + 1)) by rw [HGS.out, if_pos rfl]; simpa using hI2)
          have HR2 := Lib.hid (show w2.ownsRow 0 140 1 (.slice (some ⟨g, 0, none⟩) bs.length cap) bs.length (ptrs (kept bs dd (j + 1)) ++ (G ++ [ptr b]) ++ (ptrs bs).drop (j + 1)) by rw [HKS.out, if_pos rfl]; simpa using hrow2)
          have HK2 := Lib.hid (show k = (kept bs dd (j + 1)).length ∧ (G ++ [ptr b]).length = j + 1 - k by rw [HKS.out, if_pos rfl]; exact ⟨HK.out.1, by rw [List.length_append, HK.out.2]; simp; omega⟩)
          clear hI2 hrow2
          go_wp2_with fail
          go_roundw
          case rel => exact ⟨k, j + 1, _, rfl, by go_num, by omega, by omega, HK2, HR2, HI2, hU2w⟩
          case measure => simp [intOf]; omega
        | false =>
          have hGne : G ≠ [] := fun e => by have := HK.out.2; rw [e] at this; simp at this; omega
          obtain ⟨y, G2, rfl⟩ := List.exists_cons_of_ne_nil hGne
          have hgk : (ptrs (kept bs dd j) ++ (y :: G2) ++ ptr b :: (ptrs bs).drop (j + 1))[k]? = some y := by
            rw [List.append_assoc, List.getElem?_append_right (by rw [HKPL.out]; omega), HKPL.out, Nat.sub_self]; rfl
          obtain ⟨g', cap', e1, y0, f0, _⟩ := ownsRow_cell1 hrow2 hgk
          simp only [Value.slice.injEq, Option.some.injEq, Addr.mk.injEq] at e1
          obtain ⟨⟨rfl, _⟩, _, rfl⟩ := e1
          have hset2 := ownsRow_set1 (j := k) hrow2 (ptr b)
          have hlist : (ptrs (kept bs dd j) ++ (y :: G2) ++ ptr b :: (ptrs bs).drop (j + 1)).set k (ptr b) = ptrs (kept bs dd (j + 1)) ++ (G2 ++ [ptr b]) ++ (ptrs bs).drop (j + 1) := by
            rw [HKS.out, if_neg (by decide), List.append_assoc, List.set_append_right _ _ (by rw [HKPL.out]; omega), HKPL.out, Nat.sub_self]
            simp [ptrs]
          rw [hlist] at hset2
          have HR2 := Lib.hid (hset2 : (w2.setCell ⟨g, k, none⟩ (.pointer (some ⟨b, 0, none⟩))).ownsRow 0 140 1 (.slice (some ⟨g, 0, none⟩) bs.length cap) bs.length (ptrs (kept bs dd (j + 1)) ++ (G2 ++ [ptr b]) ++ (ptrs bs).drop (j + 1)))
          have HI2 := Lib.hid (show Inv (w2.setCell ⟨g, k, none⟩ (.pointer (some ⟨b, 0, none⟩))) (gone idf dd (j + 1)) by
            refine HSET.out _ _ _ _ ?_
            rw [HGS.out, if_neg (by decide)]; simpa using hI2)
          have HK2 := Lib.hid (show k + 1 = (kept bs dd (j + 1)).length ∧ (G2 ++ [ptr b]).length = j + 1 - (k + 1) by
            have h2 := HK.out.2
            rw [HKS.out, if_neg (by decide)]
            refine ⟨by rw [List.length_append, ← HK.out.1]; rfl, ?_⟩
            simp at h2 ⊢; omega)
          have hU3 : Upd (fun b => S b ∨ b = g) w (w2.setCell ⟨g, k, none⟩ (.pointer (some ⟨b, 0, none⟩))) := hU2w.setCell (a := ⟨g, k, none⟩) _ (fun _ => .inr rfl)
          clear hI2 hrow2 hset2 hlist hgk hGne
          go_wp2_with fail
          go_roundw
          case rel => exact ⟨k + 1, j + 1, _, by go_num, by go_num, by omega, by omega, HK2, HR2, HI2, hU3⟩
          case measure => simp [intOf]; omega
      · have hjl : j = bs.length := by omega
        subst hjl
        have hpl : (ptrs bs).length = bs.length := by simp [ptrs]
        have hrow := HR.out
        rw [List.drop_of_length_le (by omega), List.append_nil] at hrow
        have hkpl : (ptrs (kept bs dd bs.length)).length = k := by rw [HK.out.1]; simp [ptrs]
        have hG := HK.out.2
        have hcells : ∀ t, t < bs.length → (wr.cell? ⟨g, t, none⟩).isSome = true ∧ wr.frozen? ⟨g, t, none⟩ = false := fun t ht => by
          have hl : (ptrs (kept bs dd bs.length) ++ G).length = bs.length := by rw [List.length_append, hkpl, hG]; omega
          obtain ⟨g', cap', e1, y0, f0, _⟩ := ownsRow_cell1 hrow (List.getElem?_eq_getElem (i := t) (by omega))
          simp only [Value.slice.injEq, Option.some.injEq, Addr.mk.injEq] at e1
          obtain ⟨⟨rfl, _⟩, _, rfl⟩ := e1
          exact ⟨by rw [y0]; rfl, f0⟩
        have hcl : ∀ ty, (Builtin.clear_ #[134] ty #[.slice (some ⟨g, k, none⟩) (bs.length - k) (cap - k)]).run Try.prog wr = .ok (.tuple #[]) (wr.setCells g k (List.replicate (bs.length - k) (.pointer none))) := fun ty =>
          Lib.run_clear_slice wr 134 140 ty (.pointer none) Try.underlying134 (fun w => by kernel_rfl) rfl rfl g k _ _ (by omega) (fun t ht => (hcells (k + t) (by omega)).1) (fun t ht => (hcells (k + t) (by omega)).2)
        have hfin : (wr.setCells g k (List.replicate (bs.length - k) (.pointer none))).ownsRow 0 140 1 (.slice (some ⟨g, 0, none⟩) (kept bs dd bs.length).length cap) (kept bs dd bs.length).length (ptrs (kept bs dd bs.length)) := by
          have h1 := ownsRow_sets (List.replicate (bs.length - k) (Value.pointer none)) k hrow (by simp; omega)
          have h2 := ownsRow_take h1 (k := k) (by omega)
          have e : ((ptrs (kept bs dd bs.length) ++ G).take k ++ List.replicate (bs.length - k) (Value.pointer none) ++ (ptrs (kept bs dd bs.length) ++ G).drop (k + (List.replicate (bs.length - k) (Value.pointer none)).length)).take k = ptrs (kept bs dd bs.length) := by
            have e0 : (ptrs (kept bs dd bs.length) ++ G).take k = ptrs (kept bs dd bs.length) := List.take_left' hkpl
            rw [e0, List.append_assoc]
            exact List.take_left' hkpl
          rw [e] at h2
          rw [← HK.out.1]; exact h2
        have HFIN := Lib.hid hfin
        have HI2 := Lib.hid (inv_sets (Inv := Inv) (g := g) (ids := gone idf dd bs.length) (fun w' j v h => HSET.out w' _ j v h) (List.replicate (bs.length - k) (.pointer none)) k wr HI.out)
        have hU2 : Upd (fun b => S b ∨ b = g) w (wr.setCells g k (List.replicate (bs.length - k) (.pointer none))) := Upd.sets _ _ hUw (fun _ => .inr rfl)
        have HU2 := Lib.hid hU2
        have HKL := Lib.hid (HK.out.1)
        have a2 : ¬ (bs.length : Int) < (bs.length : Int) := by omega
        have a3 : (0 : Int) ≤ (k : Int) := by omega
        have a4 : (k : Int) ≤ (bs.length : Int) := by omega
        have a5 : (bs.length : Int) ≤ (cap : Int) := by omega
        have a6 : ¬ cap = k := by omega
        have a7 : (k : Int) ≤ (cap : Int) := by omega
        clear hfin hU2 hcells hG hkpl hrow hpl
        go_wp2_with fail
        go_ret
        exact ⟨by rw [← HKL.out]; rfl, HFIN.out, HI2.out, HU2.out⟩

set_option maxHeartbeats 2000000 in
set_option maxRecDepth 100000 in
/-- slices.IndexFunc: the first that is dead. -/
theorem indexf_ind {w : World} {g cap q1 q2 q3 q4 : Nat} {bs : List Nat} {dd : Nat → Bool} {idf : Nat → Int} {Inv : World → List Int → Prop} {S : Nat → Prop} (hcl : ∀ (w' : World) (ids : List Int) (i : Nat) (hi : i < bs.length), ids.length ≤ i → Inv w' ids → Calls Try.prog 78 #[.pointer (some ⟨bs[i], 0, none⟩), .pointer (some ⟨q1, 0, none⟩), .pointer (some ⟨q2, 0, none⟩), .pointer (some ⟨q3, 0, none⟩), .pointer (some ⟨q4, 0, none⟩)] w' fun r w'' => r = .returned (.bool (dd i)) ∧ Inv w'' (if dd i = true then ids ++ [idf i] else ids) ∧ Upd S w' w'') (hS : ¬ S g) (hrow : w.ownsRow 0 153 1 (.slice (some ⟨g, 0, none⟩) bs.length cap) bs.length (ptrs bs)) (hn : bs.length ≤ 1000) (h0 : Inv w []) :
    Calls Try.prog 84 #[.slice (some ⟨g, 0, none⟩) bs.length cap, .func (.func 78) #[] #[.pointer (some ⟨q1, 0, none⟩), .pointer (some ⟨q2, 0, none⟩), .pointer (some ⟨q3, 0, none⟩), .pointer (some ⟨q4, 0, none⟩)]] w fun r w' =>
      (r = .returned (.int .i64 (-1)) ∧ (∀ i, i < bs.length → dd i = false) ∧ Inv w' [] ∧ Upd S w w') ∨ (∃ i : Nat, i < bs.length ∧ r = .returned (.int .i64 (i : Int)) ∧ (∀ j, j < i → dd j = false) ∧ dd i = true ∧ Inv w' [idf i] ∧ Upd S w w') := by
  have HCL := Lib.hid hcl; have HS := Lib.hid hS; have HROW := Lib.hid hrow
  clear hcl hS hrow
  go_enter Try.func84, Try.ntmps84
  go_wp2_with fail
  go_loopw [8] (fun iv wr => ∃ i : Nat, i ≤ bs.length ∧ iv = .int .i64 (i : Int) ∧ Hid (∀ j, j < i → dd j = false) ∧ Inv wr [] ∧ Upd S w wr) (fun iv _ => bs.length - (intOf iv).toNat)
  case atStart => exact ⟨0, Nat.zero_le _, rfl, Lib.hid (fun j hj => by omega), h0, Upd.refl _ _⟩
  case round =>
    clear h0
    obtain ⟨i, hi, rfl, HB, hI, hU⟩ := hrel
    by_cases hlt : i < bs.length
    · have hr := ownsRow_upd HROW.out hU (fun b hb e => HS.out (by simp only [Value.ownBlock, Option.some.injEq] at hb; subst hb; exact e))
      obtain ⟨g', cap', e1, x0⟩ := ptrs_at hr hlt
      simp only [Value.slice.injEq, Option.some.injEq, Addr.mk.injEq] at e1
      obtain ⟨⟨rfl, _⟩, _, rfl⟩ := e1
      have hc := HCL.out wr [] i hlt (Nat.zero_le _) hI
      obtain ⟨b, hb⟩ : ∃ b, b = bs[i] := ⟨_, rfl⟩
      obtain ⟨d, hd⟩ : ∃ d, d = dd i := ⟨_, rfl⟩
      rw [← hb] at x0
      rw [← hb, ← hd] at hc
      have HC := Lib.hid hc; have HD := Lib.hid hd
      have a1 : (0 : Int) ≤ (i : Int) := by omega
      have a2 : (i : Int) < (bs.length : Int) := by omega
      clear hc hb hd hr
      go_wp2_with fail
      refine HC.out.mono ?_
      rintro r w1 ⟨rfl, hI1, hU1⟩
      cases d with
      | true =>
        have hI2 : Inv w1 [idf i] := by simpa using hI1
        have HI2 := Lib.hid hI2
        clear hI1 hI2 hI
        go_wp2_with fail
        go_ret
        exact .inr ⟨i, hlt, rfl, HB.out, HD.out.symm, HI2.out, hU.trans hU1⟩
      | false =>
        have hI2 : Inv w1 [] := by simpa using hI1
        have HI2 := Lib.hid hI2
        clear hI1 hI2 hI
        go_wp2_with fail
        go_roundw
        case rel => exact ⟨i + 1, by omega, by go_num, Lib.hid (fun j hj => by
          by_cases e : j = i
          · subst e; exact HD.out.symm
          · exact HB.out j (by omega)), HI2.out, hU.trans hU1⟩
        case measure => simp [intOf]; omega
    · have hil : i = bs.length := by omega
      subst hil
      have HI := Lib.hid hI
      have a2 : ¬ (bs.length : Int) < (bs.length : Int) := by omega
      clear hI
      go_wp2_with fail
      go_ret
      exact .inl ⟨rfl, HB.out, HI.out, hU⟩

set_option maxHeartbeats 4000000 in
set_option maxRecDepth 100000 in
/-- slices.DeleteFunc: those that are dead are no more. -/
theorem delete_ind {w : World} {g cap q1 q2 q3 q4 : Nat} {bs : List Nat} {dd : Nat → Bool} {idf : Nat → Int} {Inv : World → List Int → Prop} {S : Nat → Prop} (hcl : ∀ (w' : World) (ids : List Int) (i : Nat) (hi : i < bs.length), ids.length ≤ i → Inv w' ids → Calls Try.prog 78 #[.pointer (some ⟨bs[i], 0, none⟩), .pointer (some ⟨q1, 0, none⟩), .pointer (some ⟨q2, 0, none⟩), .pointer (some ⟨q3, 0, none⟩), .pointer (some ⟨q4, 0, none⟩)] w' fun r w'' => r = .returned (.bool (dd i)) ∧ Inv w'' (if dd i = true then ids ++ [idf i] else ids) ∧ Upd S w' w'') (hset : ∀ (w' : World) (ids : List Int) (j : Nat) (v : Value), Inv w' ids → Inv (w'.setCell ⟨g, j, none⟩ v) ids) (hS : ¬ S g) (hrow : w.ownsRow 0 153 1 (.slice (some ⟨g, 0, none⟩) bs.length cap) bs.length (ptrs bs)) (hn : bs.length ≤ 1000) (h0 : Inv w []) :
    Calls Try.prog 77 #[.slice (some ⟨g, 0, none⟩) bs.length cap, .func (.func 78) #[] #[.pointer (some ⟨q1, 0, none⟩), .pointer (some ⟨q2, 0, none⟩), .pointer (some ⟨q3, 0, none⟩), .pointer (some ⟨q4, 0, none⟩)]] w fun r w' => r = .returned (.slice (some ⟨g, 0, none⟩) (kept bs dd bs.length).length cap) ∧
      w'.ownsRow 0 153 1 (.slice (some ⟨g, 0, none⟩) (kept bs dd bs.length).length cap) (kept bs dd bs.length).length (ptrs (kept bs dd bs.length)) ∧ Inv w' (gone idf dd bs.length) ∧ Upd (fun b => S b ∨ b = g) w w' := by
  have hix := indexf_ind hcl hS hrow hn h0
  have HIX := Lib.hid hix; have HCL := Lib.hid hcl; have HS := Lib.hid hS; have HROW := Lib.hid hrow; have HSET := Lib.hid hset
  clear hix hcl hS hrow hset h0
  go_enter Try.func77, Try.ntmps77
  go_wp2_with fail
  refine HIX.out.mono ?_
  rintro r w1 (⟨rfl, hall, hI, hU⟩ | ⟨i, hi, rfl, hno, hyes, hI, hU⟩)
  · have hk : kept bs dd bs.length = bs := kept_all hall
    have hg : gone idf dd bs.length = [] := gone_none hall
    have HI := Lib.hid hI; have HK := Lib.hid hk; have HG := Lib.hid hg
    have hr := ownsRow_upd HROW.out hU (fun b hb e => HS.out (by simp only [Value.ownBlock, Option.some.injEq] at hb; subst hb; exact e))
    have HR := Lib.hid hr
    clear hall hI hk hg hr
    go_wp2_with fail
    go_ret
    exact ⟨by rw [HK.out]; rfl, by rw [HK.out]; exact HR.out, by rw [HG.out]; exact HI.out, hU.mono (fun b _ e => .inl e)⟩
  · have hk1 : kept bs dd (i + 1) = bs.take i := by rw [kept_succ, if_pos hyes, kept_take hno (by omega)]
    have hg1 : gone idf dd (i + 1) = [idf i] := by rw [gone_succ, if_pos hyes, gone_none hno]; rfl
    have hr := ownsRow_upd HROW.out hU (fun b hb e => HS.out (by simp only [Value.ownBlock, Option.some.injEq] at hb; subst hb; exact e))
    have hr1 : w1.ownsRow 0 153 1 (.slice (some ⟨g, 0, none⟩) bs.length cap) bs.length (ptrs (kept bs dd (i + 1)) ++ [ptr (bs.getD i 0)] ++ (ptrs bs).drop (i + 1)) := by
      have e : ptrs (kept bs dd (i + 1)) ++ [ptr (bs.getD i 0)] ++ (ptrs bs).drop (i + 1) = ptrs bs := by
        rw [hk1]
        unfold ptrs
        rw [← List.map_drop, show [ptr (bs.getD i 0)] = [bs[i]].map ptr from by simp [hi], ← List.map_append, ← List.map_append, ← List.take_succ_eq_append_getElem hi, List.take_append_drop]
      rw [e]; exact hr
    have hI1 : Inv w1 (gone idf dd (i + 1)) := by rw [hg1]; exact hI
    have hkl : (kept bs dd (i + 1)).length < i + 1 := by rw [hk1, List.length_take]; omega
    have hcap : bs.length ≤ cap := by
      rcases HROW.out.2 with ⟨e1, _⟩ | ⟨g1, cap1, cur, e1, _, _, hn1, _⟩
      · cases e1
      · simp only [Value.slice.injEq] at e1
        obtain ⟨_, _, rfl⟩ := e1
        exact hn1
    have HR1 := Lib.hid hr1; have HI1 := Lib.hid hI1
    have b1 : ¬ (i : Int) = -1 := by omega
    have hUw : Upd (fun b => S b ∨ b = g) w w1 := hU.mono (fun b _ e => .inl e)
    obtain ⟨k0, hk0⟩ : ∃ k0, k0 = i := ⟨_, rfl⟩
    have hki : (kept bs dd (i + 1)).length = i := by rw [hk1, List.length_take]; omega
    have HKI := Lib.hid hki
    clear hno hyes hk1 hg1 hr hr1 hI1 hI hU hk0 hki
    go_wp2_with fail
    generalize Value.bool ((i : Int) == -1) = z12
    go_loopw [5, 6] (fun kv jv wr => ∃ (k j : Nat) (G : List Value), kv = .int .i64 (k : Int) ∧ jv = .int .i64 (j : Int) ∧ k < j ∧ j ≤ bs.length ∧ Hid (k = (kept bs dd j).length ∧ G.length = j - k) ∧ Hid (wr.ownsRow 0 153 1 (.slice (some ⟨g, 0, none⟩) bs.length cap) bs.length (ptrs (kept bs dd j) ++ G ++ (ptrs bs).drop j)) ∧ Hid (Inv wr (gone idf dd j)) ∧ Upd (fun b => S b ∨ b = g) w wr) (fun _ jv _ => bs.length - (intOf jv).toNat)
    case atStart => exact ⟨i, i + 1, [ptr (bs.getD i 0)], rfl, by go_num, by omega, by omega, Lib.hid ⟨HKI.out.symm, by simp⟩, HR1, HI1, hUw⟩
    case round =>
      clear hUw
      obtain ⟨k, j, G, rfl, rfl, hkj, hj, HK, HR, HI, hUw⟩ := hrel
      by_cases hlt : j < bs.length
      · have hpl : (ptrs bs).length = bs.length := by simp [ptrs]
        have hdrop : (ptrs bs).drop j = ptr bs[j] :: (ptrs bs).drop (j + 1) := by
          rw [List.drop_eq_getElem_cons (by omega)]
          simp [ptrs]
        have hkpl : (ptrs (kept bs dd j)).length = k := by rw [HK.out.1]; simp [ptrs]
        have hrow := HR.out
        rw [hdrop] at hrow
        have hget : (ptrs (kept bs dd j) ++ G ++ ptr bs[j] :: (ptrs bs).drop (j + 1))[j]? = some (ptr bs[j]) := by
          have := HK.out.2
          rw [List.getElem?_append_right (by rw [List.length_append]; omega), List.length_append, hkpl, show j - (k + G.length) = 0 from by omega]
          rfl
        obtain ⟨g', cap', e1, x0, z0, _⟩ := ownsRow_cell1 hrow hget
        simp only [Value.slice.injEq, Option.some.injEq, Addr.mk.injEq] at e1
        obtain ⟨⟨rfl, _⟩, _, rfl⟩ := e1
        have hc := HCL.out wr _ j hlt (gone_le idf dd j) HI.out
        have hgd : bs.getD j 0 = bs[j] := by simp [hlt]
        have hks := kept_succ bs dd j
        have hgs := gone_succ idf dd j
        rw [hgd] at hks
        obtain ⟨b, hb⟩ : ∃ b, b = bs[j] := ⟨_, rfl⟩
        obtain ⟨d, hd⟩ : ∃ d, d = dd j := ⟨_, rfl⟩
        rw [← hb] at x0 hc hrow hks
        rw [← hd] at hc hks hgs
        have hx0 : wr.cell? ⟨g, j, none⟩ = some (.pointer (some ⟨b, 0, none⟩)) := x0
        have HC := Lib.hid hc; have HKS := Lib.hid hks; have HGS := Lib.hid hgs; have HROWJ := Lib.hid hrow; have HKPL := Lib.hid hkpl
        have a1 : (0 : Int) ≤ (j : Int) := by omega
        have a2 : (j : Int) < (bs.length : Int) := by omega
        have a3 : (0 : Int) ≤ (k : Int) := by omega
        have a4 : (k : Int) < (bs.length : Int) := by omega
        clear hc hb hd hks hgs hrow hget hdrop hgd x0 z0 hpl hkpl
        go_wp2_with fail
        refine HC.out.mono ?_
        rintro r w2 ⟨rfl, hI2, hU2⟩
        have hrow2 := ownsRow_upd HROWJ.out hU2 (fun b hb e => HS.out (by simp only [Value.ownBlock, Option.some.injEq] at hb; subst hb; exact e))
        have hU2w : Upd (fun b => S b ∨ b = g) w w2 := hUw.trans (hU2.mono (fun b _ e => .inl e))
        cases d with
        | true =>
          have HI2 := Lib.hid (show Inv w2 (gone idf dd (j + 1)) by rw [HGS.out, if_pos rfl]; simpa using hI2)
          have HR2 := Lib.hid (show w2.ownsRow 0 153 1 (.slice (some ⟨g, 0, none⟩) bs.length cap) bs.length (ptrs (kept bs dd (j + 1)) ++ (G ++ [ptr b]) ++ (ptrs bs).drop (j + 1)) by rw [HKS.out, if_pos rfl]; simpa using hrow2)
          have HK2 := Lib.hid (show k = (kept bs dd (j + 1)).length ∧ (G ++ [ptr b]).length = j + 1 - k by rw [HKS.out, if_pos rfl]; exact ⟨HK.out.1, by rw [List.length_append, HK.out.2]; simp; omega⟩)
          clear hI2 hrow2
          go_wp2_with fail
          go_roundw
          case rel => exact ⟨k, j + 1, _, rfl, by go_num, by omega, by omega, HK2, HR2, HI2, hU2w⟩
          case measure => simp [intOf]; omega
        | false =>
          have hGne : G ≠ [] := fun e => by have := HK.out.2; rw [e] at this; simp at this; omega
          obtain ⟨y, G2, rfl⟩ := List.exists_cons_of_ne_nil hGne
          have hgk : (ptrs (kept bs dd j) ++ (y :: G2) ++ ptr b :: (ptrs bs).drop (j + 1))[k]? = some y := by
            rw [List.append_assoc, List.getElem?_append_right (by rw [HKPL.out]; omega), HKPL.out, Nat.sub_self]; rfl
          obtain ⟨g', cap', e1, y0, f0, _⟩ := ownsRow_cell1 hrow2 hgk
          simp only [Value.slice.injEq, Option.some.injEq, Addr.mk.injEq] at e1
          obtain ⟨⟨rfl, _⟩, _, rfl⟩ := e1
          have hset2 := ownsRow_set1 (j := k) hrow2 (ptr b)
          have hlist : (ptrs (kept bs dd j) ++ (y :: G2) ++ ptr b :: (ptrs bs).drop (j + 1)).set k (ptr b) = ptrs (kept bs dd (j + 1)) ++ (G2 ++ [ptr b]) ++ (ptrs bs).drop (j + 1) := by
            rw [HKS.out, if_neg (by decide), List.append_assoc, List.set_append_right _ _ (by rw [HKPL.out]; omega), HKPL.out, Nat.sub_self]
            simp [ptrs]
          rw [hlist] at hset2
          have HR2 := Lib.hid (hset2 : (w2.setCell ⟨g, k, none⟩ (.pointer (some ⟨b, 0, none⟩))).ownsRow 0 153 1 (.slice (some ⟨g, 0, none⟩) bs.length cap) bs.length (ptrs (kept bs dd (j + 1)) ++ (G2 ++ [ptr b]) ++ (ptrs bs).drop (j + 1)))
          have HI2 := Lib.hid (show Inv (w2.setCell ⟨g, k, none⟩ (.pointer (some ⟨b, 0, none⟩))) (gone idf dd (j + 1)) by
            refine HSET.out _ _ _ _ ?_
            rw [HGS.out, if_neg (by decide)]; simpa using hI2)
          have HK2 := Lib.hid (show k + 1 = (kept bs dd (j + 1)).length ∧ (G2 ++ [ptr b]).length = j + 1 - (k + 1) by
            have h2 := HK.out.2
            rw [HKS.out, if_neg (by decide)]
            refine ⟨by rw [List.length_append, ← HK.out.1]; rfl, ?_⟩
            simp at h2 ⊢; omega)
          have hU3 : Upd (fun b => S b ∨ b = g) w (w2.setCell ⟨g, k, none⟩ (.pointer (some ⟨b, 0, none⟩))) := hU2w.setCell (a := ⟨g, k, none⟩) _ (fun _ => .inr rfl)
          clear hI2 hrow2 hset2 hlist hgk hGne
          go_wp2_with fail
          go_roundw
          case rel => exact ⟨k + 1, j + 1, _, by go_num, by go_num, by omega, by omega, HK2, HR2, HI2, hU3⟩
          case measure => simp [intOf]; omega
      · have hjl : j = bs.length := by omega
        subst hjl
        have hpl : (ptrs bs).length = bs.length := by simp [ptrs]
        have hrow := HR.out
        rw [List.drop_of_length_le (by omega), List.append_nil] at hrow
        have hkpl : (ptrs (kept bs dd bs.length)).length = k := by rw [HK.out.1]; simp [ptrs]
        have hG := HK.out.2
        have hcells : ∀ t, t < bs.length → (wr.cell? ⟨g, t, none⟩).isSome = true ∧ wr.frozen? ⟨g, t, none⟩ = false := fun t ht => by
          have hl : (ptrs (kept bs dd bs.length) ++ G).length = bs.length := by rw [List.length_append, hkpl, hG]; omega
          obtain ⟨g', cap', e1, y0, f0, _⟩ := ownsRow_cell1 hrow (List.getElem?_eq_getElem (i := t) (by omega))
          simp only [Value.slice.injEq, Option.some.injEq, Addr.mk.injEq] at e1
          obtain ⟨⟨rfl, _⟩, _, rfl⟩ := e1
          exact ⟨by rw [y0]; rfl, f0⟩
        have hcl : ∀ ty, (Builtin.clear_ #[135] ty #[.slice (some ⟨g, k, none⟩) (bs.length - k) (cap - k)]).run Try.prog wr = .ok (.tuple #[]) (wr.setCells g k (List.replicate (bs.length - k) (.pointer none))) := fun ty =>
          Lib.run_clear_slice wr 135 153 ty (.pointer none) Try.underlying135 (fun w => by kernel_rfl) rfl rfl g k _ _ (by omega) (fun t ht => (hcells (k + t) (by omega)).1) (fun t ht => (hcells (k + t) (by omega)).2)
        have hfin : (wr.setCells g k (List.replicate (bs.length - k) (.pointer none))).ownsRow 0 153 1 (.slice (some ⟨g, 0, none⟩) (kept bs dd bs.length).length cap) (kept bs dd bs.length).length (ptrs (kept bs dd bs.length)) := by
          have h1 := ownsRow_sets (List.replicate (bs.length - k) (Value.pointer none)) k hrow (by simp; omega)
          have h2 := ownsRow_take h1 (k := k) (by omega)
          have e : ((ptrs (kept bs dd bs.length) ++ G).take k ++ List.replicate (bs.length - k) (Value.pointer none) ++ (ptrs (kept bs dd bs.length) ++ G).drop (k + (List.replicate (bs.length - k) (Value.pointer none)).length)).take k = ptrs (kept bs dd bs.length) := by
            have e0 : (ptrs (kept bs dd bs.length) ++ G).take k = ptrs (kept bs dd bs.length) := List.take_left' hkpl
            rw [e0, List.append_assoc]
            exact List.take_left' hkpl
          rw [e] at h2
          rw [← HK.out.1]; exact h2
        have HFIN := Lib.hid hfin
        have HI2 := Lib.hid (inv_sets (Inv := Inv) (g := g) (ids := gone idf dd bs.length) (fun w' j v h => HSET.out w' _ j v h) (List.replicate (bs.length - k) (.pointer none)) k wr HI.out)
        have hU2 : Upd (fun b => S b ∨ b = g) w (wr.setCells g k (List.replicate (bs.length - k) (.pointer none))) := Upd.sets _ _ hUw (fun _ => .inr rfl)
        have HU2 := Lib.hid hU2
        have HKL := Lib.hid (HK.out.1)
        have a2 : ¬ (bs.length : Int) < (bs.length : Int) := by omega
        have a3 : (0 : Int) ≤ (k : Int) := by omega
        have a4 : (k : Int) ≤ (bs.length : Int) := by omega
        have a5 : (bs.length : Int) ≤ (cap : Int) := by omega
        have a6 : ¬ cap = k := by omega
        have a7 : (k : Int) ≤ (cap : Int) := by omega
        clear hfin hU2 hcells hG hkpl hrow hpl
        go_wp2_with fail
        go_ret
        exact ⟨by rw [← HKL.out]; rfl, HFIN.out, HI2.out, HU2.out⟩
end Go.Proofs.Ytdohkjpapmkhjaa
