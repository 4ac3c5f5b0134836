/-
  slices.insertionSortCmpFunc: a part of a row of numbers is put in order.
-/
import Derived.Test.YtifcdfilglbdgaaSwo
import Derived.Test.YtifcdfilglbdgaaFew
import Derived.StillTailTactics
import Derived.RegionTactic
import Derived.ChangeAlike
import Derived.BigRegion
namespace Go.Proofs.Ytifcdfilglbdgaa
open Go.RowKit

/-- The row of numbers xs at block g. -/
def IRow (w : World) (g n cap : Nat) (xs : List Int) : Prop := w.ownsRow 0 3 1 (.slice (some ⟨g, 0, none⟩) n cap) n (xs.map (Value.int .i64))
section
variable {w w' : World} {g n cap : Nat} {xs : List Int}
theorem IRow.len (h : IRow w g n cap xs) : xs.length = n := by have := h.1; simpa using this
theorem IRow.same (h : IRow w g n cap xs) (u : Below w.heap.size w w') : IRow w' g n cap xs := row_same h u
theorem IRow.cell (h : IRow w g n cap xs) {i : Nat} {x : Int} (hi : xs[i]? = some x) : w.cell? ⟨g, i, none⟩ = some (.int .i64 x) ∧ w.frozen? ⟨g, i, none⟩ = false := by
  obtain ⟨g', cap', e1, c, f, _⟩ := ownsRow_cell1 h (j := i) (u := .int .i64 x) (by simp [hi])
  simp only [Value.slice.injEq, Option.some.injEq, Addr.mk.injEq] at e1
  obtain ⟨⟨rfl, _⟩, _, _⟩ := e1
  exact ⟨c, f⟩
theorem IRow.set (h : IRow w g n cap xs) (i : Nat) (x : Int) : IRow (w.setCell ⟨g, i, none⟩ (.int .i64 x)) g n cap (xs.set i x) := by
  have := ownsRow_set1 (j := i) h (.int .i64 x)
  unfold IRow
  rw [List.map_set]
  exact this
end

theorem frozen_keep {w w' : World} {b o : Nat} {x : Value} (u : Below w.heap.size w w') (h : w.cell? ⟨b, o, none⟩ = some x) : w'.frozen? ⟨b, o, none⟩ = w.frozen? ⟨b, o, none⟩ := u.frozen (p := ⟨b, o, none⟩) (World.block_lt_of_cell? w _ h)
/-- What is handed to the sort: it compares by lt, whatever else there is. -/
def CmpOk (B : Nat) (w0 : World) (cv : Array Value) (lt : Int → Int → Bool) (ok : Int → Prop) : Prop :=
  ∀ w', Below B w0 w' → ∀ x y, ok x → ok y → Calls Try.prog 28 (#[.int .i64 x, .int .i64 y] ++ cv) w' fun r w'' => (∃ c : Int, r = .returned (.int .i64 c) ∧ decide (c < 0) = lt x y) ∧ Below w'.heap.size w' w''

theorem irow_swap {w : World} {g n cap : Nat} {A U : List Int} {x y : Int} (h : IRow w g n cap (A ++ x :: y :: U)) :
    IRow ((w.setCell ⟨g, A.length + 1, none⟩ (.int .i64 x)).setCell ⟨g, A.length, none⟩ (.int .i64 y)).drew g n cap (A ++ y :: x :: U) := by
  have h2 := (h.set (A.length + 1) x).set A.length y
  have e : ((A ++ x :: y :: U).set (A.length + 1) x).set A.length y = A ++ y :: x :: U := by
    rw [List.set_append_right _ _ (by omega), show A.length + 1 - A.length = 1 from by omega, List.set_append_right _ _ (by omega), Nat.sub_self]; rfl
  rw [e] at h2
  exact h2.same (below_drewN (n := 1))
theorem getElem?_mid {A U : List Int} {x : Int} : (A ++ x :: U)[A.length]? = some x := by simp
theorem getElem?_mid1 {A U : List Int} {x y : Int} : (A ++ x :: y :: U)[A.length + 1]? = some y := by
  rw [List.getElem?_append_right (by omega), show A.length + 1 - A.length = 1 from by omega]; rfl

set_option maxHeartbeats 4000000 in
set_option maxRecDepth 100000 in
/-- slices.insertionSortCmpFunc. -/
theorem ins_at {B : Nat} {w0 : World} {p q g n cap : Nat} {lt : Int → Int → Bool} {ok : Int → Prop} (hs : SWO lt ok) (hc : CmpOk B w0 #[.pointer (some ⟨p, 0, none⟩), .pointer (some ⟨q, 0, none⟩)] lt ok) (hg : B ≤ g) (hn : n ≤ 1000)
    {w : World} (hB : Below B w0 w) {P S Z : List Int} (hrow : IRow w g n cap (P ++ S ++ Z)) (hasc : S.Pairwise (· < ·)) (hok : ∀ x ∈ S, ok x) :
    Calls Try.prog 39 #[.slice (some ⟨g, 0, none⟩) n cap, .int .i64 (P.length : Int), .int .i64 ((P.length : Int) + S.length), .func (.func 28) #[] #[.pointer (some ⟨p, 0, none⟩), .pointer (some ⟨q, 0, none⟩)]] w fun r w' =>
      r = .returned (.tuple #[]) ∧ ∃ C, C.Perm S ∧ Srt lt C ∧ IRow w' g n cap (P ++ C ++ Z) ∧ Upd (fun b => b = g) w w' := by
  have hl := hrow.len
  simp only [List.length_append] at hl
  have HC := Lib.hid hc; have HS := Lib.hid hs; have HASC := Lib.hid hasc; have HOK := Lib.hid hok; have HL := Lib.hid hl
  have hBw : B ≤ w.heap.size := Nat.le_trans hg (Nat.le_of_lt (World.ownsRow.lt hrow g rfl).2)
  have hub : ∀ wr, Upd (fun b => b = g) w wr → Below B w0 wr := fun wr u => hB.trans (u.below hBw (fun b hb e => by omega))
  have HUB := Lib.hid hub
  have ha : P.length ≤ 1000 := by omega
  have hsl : S.length ≤ 1000 := by omega
  obtain ⟨a, hae⟩ : ∃ a, a = P.length := ⟨_, rfl⟩
  obtain ⟨sl, hsle⟩ : ∃ sl, sl = S.length := ⟨_, rfl⟩
  rw [← hae] at ha ⊢
  rw [← hsle] at hsl ⊢
  have HA := Lib.hid hae; have HSL := Lib.hid hsle
  have hr0 : IRow w g n cap (P ++ S.take 1 ++ (S.drop 1 ++ Z)) := by
    have e : P ++ S.take 1 ++ (S.drop 1 ++ Z) = P ++ S ++ Z := by
      rw [List.append_assoc P (S.take 1), ← List.append_assoc (S.take 1), List.take_append_drop, List.append_assoc]
    rw [e]; exact hrow
  have hs0 : Srt lt (S.take 1) := by
    cases S with
    | nil => exact List.Pairwise.nil
    | cons x r => exact List.pairwise_singleton _ _
  clear hc hs hasc hok hub hl hae hsle hrow hg hB
  go_enter Try.func39, Try.ntmps39
  go_wp2_with fail
  go_loopw [8] (fun iv wr => ∃ (k : Nat) (C : List Int), iv = .int .i64 ((a : Int) + (k : Int)) ∧ 1 ≤ k ∧ (k ≤ sl ∨ k = 1) ∧ C.Perm (S.take k) ∧ Srt lt C ∧ IRow wr g n cap (P ++ C ++ (S.drop k ++ Z)) ∧ Upd (fun b => b = g) w wr) (fun i _ => a + sl + 1 - (intOf i).toNat)
  case atStart => exact ⟨1, S.take 1, by go_num, by omega, .inr rfl, List.Perm.refl _, hs0, hr0, Upd.refl _ _⟩
  case round =>
    clear hr0 hs0
    obtain ⟨k, C, rfl, hk1, hk2, hperm, hsrt, hrow, hU⟩ := hrel
    by_cases hlt : k < sl
    · have hks : k < S.length := by rw [← HSL.out]; exact hlt
      have hib : (a : Int) + (k : Int) < (a : Int) + (sl : Int) := by omega
      have hdr : S.drop k = S[k] :: S.drop (k + 1) := List.drop_eq_getElem_cons hks
      have htk : S.take (k + 1) = S.take k ++ [S[k]] := List.take_succ_eq_append_getElem hks
      have heok : ok S[k] := HOK.out _ (List.getElem_mem hks)
      have hlate : ∀ x ∈ C, x < S[k] := fun x hx => by
        obtain ⟨i, hi, rfl⟩ := List.mem_iff_getElem.1 (hperm.mem_iff.1 hx)
        rw [List.getElem_take]
        exact (List.pairwise_iff_getElem.1 HASC.out) i k _ _ (by simp at hi; omega)
      have hcok : ∀ x ∈ C, ok x := fun x hx => HOK.out x (List.mem_of_mem_take (hperm.mem_iff.1 hx))
      have hcl : C.length = k := by rw [hperm.length_eq, List.length_take]; omega
      rw [hdr] at hrow
      obtain ⟨e, he⟩ : ∃ e, e = S[k] := ⟨_, rfl⟩
      obtain ⟨U, hUe⟩ : ∃ U, U = S.drop (k + 1) ++ Z := ⟨_, rfl⟩
      have hrow2 : IRow wr g n cap ((P ++ C) ++ e :: U) := by rw [hUe, he, ← List.cons_append]; exact hrow
      rw [← he] at heok hlate htk
      have hperm2 : ∀ L M, C = L ++ M → (L ++ e :: M).Perm (S.take (k + 1)) := fun L M hLM => by
        rw [htk]
        subst hLM
        exact List.perm_middle.trans ((List.Perm.cons e hperm).trans (List.perm_append_singleton e _).symm)
      have HE := Lib.hid heok; have HLATE := Lib.hid hlate; have HCOK := Lib.hid hcok; have HP := Lib.hid hperm2; have HSRT := Lib.hid hsrt; have HUE := Lib.hid hUe; have HCL := Lib.hid hcl
      clear heok hlate hcok hperm2 hperm hsrt hrow hdr htk he hUe hcl
      go_wp2_with fail
      obtain ⟨wo, hwo⟩ : ∃ wo, wo = wr := ⟨_, rfl⟩
      subst hwo
      go_loopw [9] (fun iv wv => ∃ L M : List Int, iv = .int .i64 ((a : Int) + (L.length : Int)) ∧ Hid (C = L ++ M) ∧ Hid (∀ m ∈ M, lt e m = true) ∧ IRow wv g n cap ((P ++ L) ++ e :: (M ++ U)) ∧ Upd (fun b => b = g) w wv) (fun i _ => (intOf i).toNat)
      case atStart => exact ⟨C, [], by rw [HCL.out], (List.append_nil C).symm, (fun m hm => by cases hm), hrow2, hU⟩
      case round =>
        clear hrow2 hU
        obtain ⟨L, M, rfl, HLM, HM, hrow, hU⟩ := hrel
        have hLl : L.length ≤ k := by have := congrArg List.length HLM.out; rw [HCL.out, List.length_append] at this; omega
        rcases List.eq_nil_or_concat L with hL | ⟨L', l, hL⟩
        · subst hL
          rw [show (a : Int) + (([] : List Int).length : Int) = (a : Int) from by simp]
          have hsr := HS.out.insert (L := []) (M := M) (e := e) (fun x hx => HCOK.out x (by rw [HLM.out]; exact hx)) HE.out (by have := HSRT.out; rw [HLM.out] at this; exact this) (fun x hx => HLATE.out x (by rw [HLM.out]; exact hx)) HM.out (.inl rfl)
          have hpm := HP.out [] M HLM.out
          have hrow3 : IRow wr g n cap (P ++ ([] ++ e :: M) ++ (S.drop (k + 1) ++ Z)) := by rw [← HUE.out]; simpa using hrow
          have HSR := Lib.hid hsr; have HPM := Lib.hid hpm
          clear hsr hpm hrow
          go_wp2_with fail
          go_quiet (fail)
          go_wp2_with fail
          go_roundw
          case rel => exact ⟨k + 1, _, by go_num, by omega, by omega, HPM.out, HSR.out, hrow3.same below_drewN, hU.drewN _⟩
          case measure => simp [intOf]; omega
        · rw [List.concat_eq_append] at hL
          subst hL
          have hll : (L' ++ [l]).length = L'.length + 1 := by simp
          obtain ⟨m, hm⟩ : ∃ m, m = (P ++ L').length := ⟨_, rfl⟩
          have hml : m = a + L'.length := by rw [hm, HA.out, List.length_append]
          rw [show (a : Int) + ((L' ++ [l]).length : Int) = (m : Int) + 1 from by rw [hll]; omega]
          have hrow2 : IRow wr g n cap ((P ++ L') ++ l :: e :: (M ++ U)) := by simpa using hrow
          have hlen := hrow2.len
          simp only [List.length_append, List.length_cons] at hlen
          obtain ⟨h0, f0⟩ := hrow2.cell (i := m) (by rw [hm]; exact getElem?_mid)
          obtain ⟨h1, f1⟩ := hrow2.cell (i := m + 1) (by rw [hm]; exact getElem?_mid1)
          have hmn : m + 1 < n := by simp only [List.length_append] at hm; omega
          have hBr := HUB.out _ hU
          have hd0 : Below wr.heap.size wr wr.drew := below_drewN (n := 1)
          have hlok : ok l := HCOK.out l (by rw [HLM.out]; simp)
          have hcall : Calls Try.prog 28 #[.int .i64 e, .int .i64 l, .pointer (some ⟨p, 0, none⟩), .pointer (some ⟨q, 0, none⟩)] wr.drew _ := HC.out wr.drew (hBr.trans (below_drewN (n := 1))) e l HE.out hlok
          have HCALL := Lib.hid hcall
          have HMP := Lib.hid hm
          clear hcall hrow hlen hll hm
          have a1 : (a : Int) < (m : Int) + 1 := by omega
          have a2 : (m : Int) + 1 < (n : Int) := by omega
          have a3 : (0 : Int) ≤ (m : Int) + 1 := by omega
          have a4 : (0 : Int) ≤ (m : Int) := by omega
          have a5 : (m : Int) < (n : Int) := by omega
          have a6 : ((m : Int) + 1).toNat = m + 1 := by omega
          have a9 : IntKind.i64.wrap (m : Int) = (m : Int) := IntWalk.i64_in _ (by omega)
          have a10 : IntKind.i64.wrap ((m : Int) + 1 - 1) = (m : Int) := by rw [show (m : Int) + 1 - 1 = (m : Int) from by omega]; exact a9
          have HML := Lib.hid hml
          clear hml
          go_wp2_with fail
          go_region_held3 (fun z => z.cell? ⟨g, m, none⟩ = some (.int .i64 l) ∧ z.cell? ⟨g, m + 1, none⟩ = some (.int .i64 e))
            (first | (with_reducible exact ⟨keeper hd1 h0, keeper hd1 h1⟩) | (with_reducible exact ⟨keeper hd0 h0, keeper hd0 h1⟩))
            (first | (go_at_call 28; (with_reducible refine HCALL.out.mono ?_); rintro r w1 ⟨⟨c, rfl, hcl0⟩, hk1⟩; have hd1 := below_then hd0 hk1; have hcl := Lib.hid hcl0; clear hcl0))
          by_cases hc0 : c < 0
          · have hlt2 : lt e l = true := by rw [← hcl.out]; simpa using hc0
            have HLT := Lib.hid hlt2
            have j0 := keeper hd1 h0
            have j1 := keeper hd1 h1
            have z0 : w1.frozen? ⟨g, m, none⟩ = false := (frozen_keep hd1 h0).trans f0
            have z1 : w1.frozen? ⟨g, m + 1, none⟩ = false := (frozen_keep hd1 h1).trans f1
            have hsw := irow_swap (hrow2.same hd1)
            rw [← HMP.out] at hsw
            have hus : Upd (fun b => b = g) w1 ((w1.setCell ⟨g, m + 1, none⟩ (.int .i64 l)).setCell ⟨g, m, none⟩ (.int .i64 e)).drew := (((Upd.refl (fun b => b = g) w1).setCell (a := ⟨g, m + 1, none⟩) _ (fun _ => rfl)).setCell (a := ⟨g, m, none⟩) _ (fun _ => rfl)).drew
            clear hlt2 h0 h1 f0 f1
            go_wp2_with fail
            go_region
            go_wp2_with fail
            go_roundw
            case rel => exact ⟨L', l :: M, by rw [HML.out]; go_num, (HLM.out.trans (by simp) : C = L' ++ l :: M), (fun z hz => by
              rcases List.mem_cons.1 hz with rfl | hz
              · exact HLT.out
              · exact HM.out z hz), hsw, (hU.trans (Upd.same hd1)).trans hus⟩
            case measure => simp [intOf] <;> omega
          · have hlt2 : lt e l = false := by rw [← hcl.out]; simpa using hc0
            have hsr := HS.out.insert (L := L' ++ [l]) (M := M) (e := e) (fun x hx => HCOK.out x (by rw [HLM.out]; exact hx)) HE.out (by have := HSRT.out; rw [HLM.out] at this; exact this) (fun x hx => HLATE.out x (by rw [HLM.out]; exact hx)) HM.out (.inr ⟨L', l, rfl, hlt2⟩)
            have hpm := HP.out (L' ++ [l]) M HLM.out
            have hrow3 : IRow w1 g n cap (P ++ ((L' ++ [l]) ++ e :: M) ++ (S.drop (k + 1) ++ Z)) := by rw [← HUE.out]; have := hrow2.same hd1; simpa using this
            have HSR := Lib.hid hsr; have HPM := Lib.hid hpm
            clear hsr hpm hlt2 h0 h1 f0 f1
            go_wp2_with fail
            go_roundw
            case rel => exact ⟨k + 1, _, by go_num, by omega, by omega, HPM.out, HSR.out, hrow3, hU.trans (Upd.same hd1)⟩
            case measure => simp [intOf]; omega
    · have hkl : k = sl ∨ sl = 0 := by omega
      have htk : S.take k = S := List.take_of_length_le (by rw [← HSL.out]; omega)
      have hdk : S.drop k = [] := List.drop_eq_nil_of_le (by rw [← HSL.out]; omega)
      rw [htk] at hperm
      rw [hdk, List.nil_append] at hrow
      have hib : ¬ (a : Int) + (k : Int) < (a : Int) + (sl : Int) := by omega
      have HP := Lib.hid hperm; have HSRT := Lib.hid hsrt
      clear hperm hsrt htk hdk
      go_wp2_with fail
      go_end0
      exact ⟨rfl, C, HP.out, HSRT.out, by simpa using hrow, hU⟩
end Go.Proofs.Ytifcdfilglbdgaa
