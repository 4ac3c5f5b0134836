/-
  slices.symMergeCmpFunc: two sorted parts of a row of numbers, side by side, become one.
-/
import Derived.Test.YtifcdfilglbdgaaRot
namespace Go.Proofs.Ytifcdfilglbdgaa
open Go.RowKit

theorem half_i64 (x y : Nat) (h : x + y ≤ 100000) : IntKind.i64.wrap ((x : Int) + (y : Int)) = ((x + y : Nat) : Int) := by
  rw [show (x : Int) + (y : Int) = ((x + y : Nat) : Int) from by omega]; exact IntWalk.i64_in _ (by omega)

theorem SWO.join {lt : Int → Int → Bool} {ok : Int → Prop} (h : SWO lt ok) {L M : List Int} (hok : ∀ x ∈ L ++ M, ok x) (hL : Srt lt L) (hM : Srt lt M)
    (hj : L = [] ∨ M = [] ∨ ∃ L' l z M', L = L' ++ [l] ∧ M = z :: M' ∧ bf lt l z) : Srt lt (L ++ M) := by
  rcases hj with rfl | rfl | ⟨L', l, z, M', rfl, rfl, hb⟩
  · simpa using hM
  · simpa using hL
  · unfold Srt at hL hM ⊢
    rw [List.pairwise_append]
    refine ⟨hL, hM, fun x hx y hy => ?_⟩
    have hlz : ∀ x ∈ L' ++ [l], bf lt x z := fun x hx => by
      rcases List.mem_append.1 hx with hx | hx
      · exact h.bf_trans (hok x (by simp [hx])) (hok l (by simp)) (hok z (by simp)) ((List.pairwise_append.1 hL).2.2 x hx l (by simp)) hb
      · simp at hx; subst hx; exact hb
    rcases List.mem_cons.1 hy with rfl | hy2
    · exact hlz x hx
    · exact h.bf_trans (hok x (by simp only [List.mem_append] at hx ⊢; exact .inl hx)) (hok z (by simp)) (hok y (by simp [hy2])) (hlz x hx) ((List.pairwise_cons.1 hM).1 y hy2)

/-- What the merge of the parts A and B at P does. -/
def MergeOk (s : Nat) : Prop := ∀ {B : Nat} {w0 : World} {p q g n cap : Nat} {lt : Int → Int → Bool} {ok : Int → Prop}, SWO lt ok → CmpOk B w0 #[.pointer (some ⟨p, 0, none⟩), .pointer (some ⟨q, 0, none⟩)] lt ok → B ≤ g → n ≤ 1000 →
    ∀ {w : World}, Below B w0 w → ∀ {X L R Z : List Int} {a m b : Nat}, IRow w g n cap (X ++ L ++ R ++ Z) → a = X.length → m = X.length + L.length → b = X.length + L.length + R.length → 0 < L.length → 0 < R.length → L.length + R.length ≤ s →
    Srt lt L → Srt lt R → (∀ x ∈ L, ∀ y ∈ R, x < y) → (∀ x ∈ L ++ R, ok x) →
    Calls Try.prog 40 #[.slice (some ⟨g, 0, none⟩) n cap, .int .i64 (a : Int), .int .i64 (m : Int), .int .i64 (b : Int), .func (.func 28) #[] #[.pointer (some ⟨p, 0, none⟩), .pointer (some ⟨q, 0, none⟩)]] w fun r w' =>
      r = .returned (.tuple #[]) ∧ ∃ C, C.Perm (L ++ R) ∧ Srt lt C ∧ IRow w' g n cap (X ++ C ++ Z) ∧ Upd (fun b => b = g) w w'

set_option maxHeartbeats 4000000 in
set_option maxRecDepth 100000 in
/-- One number ahead of a sorted part: to its place. -/
theorem merge_left {B : Nat} {w0 : World} {p q g n cap : Nat} {lt : Int → Int → Bool} {ok : Int → Prop} (hs : SWO lt ok) (hc : CmpOk B w0 #[.pointer (some ⟨p, 0, none⟩), .pointer (some ⟨q, 0, none⟩)] lt ok) (hg : B ≤ g) (hn : n ≤ 1000)
    {w : World} (hB : Below B w0 w) {X R Z : List Int} {x : Int} {a m b : Nat} (hrow : IRow w g n cap (X ++ x :: (R ++ Z))) (ha : a = X.length) (hm : m = X.length + 1) (hb : b = X.length + 1 + R.length) (hR : 0 < R.length)
    (hsR : Srt lt R) (hlate : ∀ y ∈ R, x < y) (hx : ok x) (hok : ∀ y ∈ R, ok y) :
    Calls Try.prog 40 #[.slice (some ⟨g, 0, none⟩) n cap, .int .i64 (a : Int), .int .i64 (m : Int), .int .i64 (b : Int), .func (.func 28) #[] #[.pointer (some ⟨p, 0, none⟩), .pointer (some ⟨q, 0, none⟩)]] w fun r w' =>
      r = .returned (.tuple #[]) ∧ ∃ C, C.Perm (x :: R) ∧ Srt lt C ∧ IRow w' g n cap (X ++ C ++ Z) ∧ Upd (fun b => b = g) w w' := by
  have hl := hrow.len
  simp only [List.length_append, List.length_cons] at hl
  have HC := Lib.hid hc; have HS := Lib.hid hs; have HX := Lib.hid hx; have HOK := Lib.hid hok; have HA := Lib.hid ha; have HLATE := Lib.hid hlate; have HSR := Lib.hid hsR
  have hBw : B ≤ w.heap.size := Nat.le_trans hg (Nat.le_of_lt (World.ownsRow.lt hrow g rfl).2)
  have hub : ∀ wr, Upd (fun b => b = g) w wr → Below B w0 wr := fun wr u => hB.trans (u.below hBw (fun b hb e => by omega))
  have HUB := Lib.hid hub
  have hma : m = a + 1 := by omega
  have hbn : b ≤ n := by omega
  have hmb : m < b := by omega
  have HMA := Lib.hid hma; have hmn : (m : Int) = (a : Int) + 1 := by omega
  have HB2 := Lib.hid hb; have HM2 := Lib.hid hm
  have w1 : IntKind.i64.wrap ((m : Int) - (a : Int)) = 1 := by rw [show (m : Int) - (a : Int) = 1 from by omega]; exact IntWalk.i64_in _ (by omega)
  obtain ⟨f0, c0⟩ : w.cell? ⟨g, a, none⟩ = some (.int .i64 x) ∧ w.frozen? ⟨g, a, none⟩ = false := hrow.cell (by rw [ha]; exact getElem?_mid)
  have HROW := Lib.hid hrow
  clear hc hs hx hok ha hm hb hlate hsR hub hl hB hg hma hmn hrow
  go_enter Try.func40, Try.ntmps40
  go_wp2_with fail
  clear w1
  go_loopw [10, 11] (fun iv jv wr => ∃ i j : Nat, iv = .int .i64 (i : Int) ∧ jv = .int .i64 (j : Int) ∧ m ≤ i ∧ i ≤ j ∧ j ≤ b ∧ Hid (i = m ∨ ∃ y, R[i - m - 1]? = some y ∧ lt y x = true) ∧ Hid (j = b ∨ ∃ y, R[j - m]? = some y ∧ lt y x = false) ∧ Below w.heap.size w wr) (fun iv jv _ => (intOf jv).toNat - (intOf iv).toNat)
  case atStart => exact ⟨m, b, rfl, rfl, Nat.le_refl _, by omega, Nat.le_refl _, Lib.hid (.inl rfl), Lib.hid (.inl rfl), Below.refl _ _⟩
  case round =>
    obtain ⟨i, j, rfl, rfl, hi, hij, hj, HI, HJ, hU⟩ := hrel
    by_cases hlt : i < j
    · have b0 : (i : Int) < (j : Int) := by omega
      obtain ⟨h, hh⟩ : ∃ h, h = (i + j) / 2 := ⟨_, rfl⟩
      have hhi : i ≤ h ∧ h < j := by omega
      have a0 : ((i : Int) + (j : Int)) / 2 = (h : Int) := by omega
      obtain ⟨y, hy⟩ : ∃ y, R[h - m]? = some y := ⟨_, List.getElem?_eq_getElem (by have := HB2.out; have := HM2.out; omega)⟩
      have hg1 : (X ++ x :: (R ++ Z))[h]? = some y := by
        have h1 := HM2.out
        rw [List.getElem?_append_right (by omega), show h - X.length = (h - m) + 1 from by omega, List.getElem?_cons_succ, List.getElem?_append_left (List.getElem?_eq_some_iff.1 hy).1]
        exact hy
      obtain ⟨h1, _⟩ := HROW.out.cell hg1
      have hyR : y ∈ R := List.mem_of_getElem? hy
      have hd0 : Below wr.heap.size wr wr.drew := below_drewN (n := 1)
      have k0 := keeper hU f0
      have k1 := keeper hU h1
      have hcall : Calls Try.prog 28 #[.int .i64 y, .int .i64 x, .pointer (some ⟨p, 0, none⟩), .pointer (some ⟨q, 0, none⟩)] wr.drew _ := HC.out wr.drew ((HUB.out _ (Upd.same hU)).trans (below_drewN (n := 1))) y x (HOK.out y hyR) HX.out
      have HCALL := Lib.hid hcall; have HY := Lib.hid hy; have HH := Lib.hid hh
      have a1 : (0 : Int) ≤ (h : Int) := by omega
      have a2 : (h : Int) < (n : Int) := by omega
      have a3 : (0 : Int) ≤ (a : Int) := by omega
      have a4 : (a : Int) < (n : Int) := by have := HMA.out; omega
      clear hcall hg1 h1 hyR hy hh
      go_wp2_with fail
      go_region_held3 (fun z => z.cell? ⟨g, a, none⟩ = some (.int .i64 x) ∧ z.cell? ⟨g, h, none⟩ = some (.int .i64 y))
        (first | (with_reducible exact ⟨keeper hd1 k0, keeper hd1 k1⟩) | (with_reducible exact ⟨keeper hd0 k0, keeper hd0 k1⟩))
        (first | (go_at_call 28; (with_reducible refine HCALL.out.mono ?_); rintro r w1 ⟨⟨c, rfl, hcl0⟩, hk1⟩; have hd1 := below_then hd0 hk1; have hcl := Lib.hid hcl0; clear hcl0))
      by_cases hc0 : c < 0
      · have hlt2 : lt y x = true := by rw [← hcl.out]; simpa using hc0
        have HLT := Lib.hid hlt2
        clear hlt2
        go_wp2_with fail
        go_roundw
        case rel => exact ⟨h + 1, j, by go_num, rfl, by omega, by omega, hj, Lib.hid (.inr ⟨y, by rw [show h + 1 - m - 1 = h - m from by omega]; exact HY.out, HLT.out⟩), HJ, below_then hU hd1⟩
        case measure => simp [intOf]; omega
      · have hlt2 : lt y x = false := by rw [← hcl.out]; simpa using hc0
        have HLT := Lib.hid hlt2
        clear hlt2
        go_wp2_with fail
        go_roundw
        case rel => exact ⟨i, h, rfl, rfl, hi, by omega, by omega, HI, Lib.hid (.inr ⟨y, HY.out, HLT.out⟩), below_then hU hd1⟩
        case measure => simp [intOf]; omega
    · have hij2 : i = j := by omega
      subst hij2
      have b0 : ¬ (i : Int) < (i : Int) := by omega
      go_wp2_with fail
      have hrow1 := HROW.out.same hU
      obtain ⟨R1, R2, hR12, hl1, hl2⟩ := split_at R (i - m) (by have := HB2.out; have := HM2.out; omega)
      have hia : i = a + 1 + R1.length := by have := HMA.out; omega
      have hsrt : Srt lt (R1 ++ x :: R2) := by
        have hs0 := HSR.out
        rw [hR12] at hs0
        have hs1 := List.pairwise_append.1 hs0
        have hokR : ∀ y ∈ R1 ++ R2, ok y := fun y hy => HOK.out y (by rw [hR12]; exact hy)
        refine HS.out.join (fun y hy => ?_) hs1.1 (HS.out.join (L := [x]) (M := R2) (fun y hy => ?_) (List.pairwise_singleton _ _) hs1.2.1 ?_) ?_
        · simp only [List.mem_append, List.mem_cons] at hy
          rcases hy with hy | rfl | hy
          · exact hokR y (by simp [hy])
          · exact HX.out
          · exact hokR y (by simp [hy])
        · simp only [List.mem_append, List.mem_singleton] at hy
          rcases hy with rfl | hy
          · exact HX.out
          · exact hokR y (by simp [hy])
        · rcases HJ.out with e | ⟨y, e, e2⟩
          · exact .inr (.inl (List.eq_nil_of_length_eq_zero (by have := HB2.out; have := HM2.out; omega)))
          · cases hR2 : R2 with
            | nil => exact .inr (.inl rfl)
            | cons z M =>
              have hz : R[i - m]? = some z := by rw [hR12, hR2, List.getElem?_append_right (by omega), hl1, Nat.sub_self]; rfl
              rw [hz] at e
              cases e
              exact .inr (.inr ⟨[], x, y, M, rfl, rfl, .inr ⟨e2, HLATE.out y (List.mem_of_getElem? hz)⟩⟩)
        · rcases HI.out with e | ⟨y, e, e2⟩
          · exact .inl (List.eq_nil_of_length_eq_zero (by omega))
          · rcases List.eq_nil_or_concat R1 with h0 | ⟨L', l, h0⟩
            · exact .inl h0
            · rw [List.concat_eq_append] at h0
              have hll : R1.length = L'.length + 1 := by rw [h0]; simp
              have hz : R[i - m - 1]? = some l := by rw [hR12, h0, List.append_assoc, List.getElem?_append_right (by omega), show i - m - 1 - L'.length = 0 from by omega]; rfl
              rw [hz] at e
              cases e
              exact .inr (.inr ⟨L', y, x, R2, h0, rfl, .inl e2⟩)
      have hpm : (R1 ++ x :: R2).Perm (x :: R) := by rw [hR12]; exact List.perm_middle
      rw [hR12] at hrow1
      have hmn := hrow1.len
      simp only [List.length_append, List.length_cons] at hmn
      have hrow2 : IRow wr g n cap (X ++ [] ++ x :: (R1 ++ (R2 ++ Z))) := by simpa using hrow1
      obtain ⟨s, hs⟩ : ∃ s, s = R1.length := ⟨_, rfl⟩
      have w2 : IntKind.i64.wrap ((i : Int) - 1) = (a : Int) + (s : Int) := by rw [show (i : Int) - 1 = (a : Int) + (s : Int) from by omega]; exact IntWalk.i64_in _ (by omega)
      have has : a + s < n := by have := HA.out; omega
      have b1 : (i : Int) = (a : Int) + (s : Int) + 1 := by omega
      have HSS := Lib.hid hs; have HSRT := Lib.hid hsrt; have HPM := Lib.hid hpm; have HU0 := Lib.hid hU
      clear hrow1 hR12 hl1 hl2 hia hsrt hpm hs hmn hi hij hj HI HJ
      have HB1 := Lib.hid b1
      clear b1
      go_wp2_with fail
      obtain ⟨wo, hwo⟩ : ∃ wo, wo = wr := ⟨_, rfl⟩
      subst hwo
      go_loopw [13] (fun kv wq => ∃ (k : Nat) (P Q : List Int), kv = .int .i64 (k : Int) ∧ Hid (R1 = P ++ Q ∧ k = (X ++ P).length) ∧ k ≤ a + s ∧ IRow wq g n cap (X ++ P ++ x :: (Q ++ (R2 ++ Z))) ∧ Upd (fun b => b = g) wo wq) (fun kv _ => a + s - (intOf kv).toNat)
      case atStart => exact ⟨a, [], R1, rfl, Lib.hid ⟨rfl, by simpa using HA.out⟩, by omega, hrow2, Upd.refl _ _⟩
      case round =>
        clear hrow2
        obtain ⟨k, P, Q, rfl, HK, hk, hrow, hP⟩ := hrel
        have hkl := HK.out.2
        by_cases hlt : k < a + s
        · have b2 : (k : Int) < (a : Int) + (s : Int) := by omega
          have hq : Q ≠ [] := fun e => by
            have h1 := congrArg List.length HK.out.1
            rw [e, List.append_nil] at h1
            have h2 := HA.out; have h3 := HSS.out; have h4 := hkl
            rw [List.length_append] at h4
            omega
          obtain ⟨y, Q2, rfl⟩ := List.exists_cons_of_ne_nil hq
          obtain ⟨h0, z0⟩ := hrow.cell (i := k) (by rw [hkl]; exact getElem?_mid)
          obtain ⟨h1, z1⟩ := hrow.cell (i := k + 1) (by rw [hkl]; exact getElem?_mid1)
          have hsw : IRow ((wr.setCell ⟨g, k, none⟩ (.int .i64 y)).setCell ⟨g, k + 1, none⟩ (.int .i64 x)).drew g n cap ((X ++ P) ++ y :: ([] ++ x :: (Q2 ++ (R2 ++ Z)))) := irow_swap2 (M := []) hrow hkl (by rw [hkl]; rfl)
          have hrow3 : IRow ((wr.setCell ⟨g, k, none⟩ (.int .i64 y)).setCell ⟨g, k + 1, none⟩ (.int .i64 x)).drew g n cap (X ++ (P ++ [y]) ++ x :: (Q2 ++ (R2 ++ Z))) := by simpa using hsw
          have hus : Upd (fun b => b = g) wr ((wr.setCell ⟨g, k, none⟩ (.int .i64 y)).setCell ⟨g, k + 1, none⟩ (.int .i64 x)).drew := (((Upd.refl (fun b => b = g) wr).setCell (a := ⟨g, k, none⟩) _ (fun _ => rfl)).setCell (a := ⟨g, k + 1, none⟩) _ (fun _ => rfl)).drew
          have HN := Lib.hid (show R1 = (P ++ [y]) ++ Q2 ∧ k + 1 = (X ++ (P ++ [y])).length by
            refine ⟨by rw [HK.out.1]; simp, ?_⟩
            have h4 := hkl
            simp only [List.length_append, List.length_cons, List.length_nil] at h4 ⊢
            omega)
          have HR3 := Lib.hid hrow3
          have a5 : IntKind.i64.wrap ((k : Int) + 1) = (k : Int) + 1 := IntWalk.i64_in _ (by omega)
          have a6 : ((k : Int) + 1).toNat = k + 1 := by omega
          have a7 : (0 : Int) ≤ (k : Int) := by omega
          have a8 : (k : Int) < (n : Int) := by omega
          have a9 : (0 : Int) ≤ (k : Int) + 1 := by omega
          have a10 : (k : Int) + 1 < (n : Int) := by omega
          clear hrow hrow3 hsw hq hkl HK
          go_wp2_with fail
          go_region
          go_wp2_with fail
          go_roundw
          case rel => exact ⟨k + 1, P ++ [y], Q2, by go_num, HN, by omega, HR3.out, hP.trans hus⟩
          case measure => simp [intOf]; omega
        · have hke : k = a + s := by omega
          subst hke
          have hq : Q = [] := List.eq_nil_of_length_eq_zero (by
            have h1 := congrArg List.length HK.out.1
            have h2 := HA.out; have h3 := HSS.out; have h4 := hkl
            rw [List.length_append] at h1 h4
            omega)
          subst hq
          have hp1 : P = R1 := by rw [HK.out.1]; simp
          subst hp1
          have hrow3 : IRow wr g n cap (X ++ (P ++ x :: R2) ++ Z) := by simpa using hrow
          clear hrow hkl HK
          go_wp2_with fail
          (try simp only [Exit.inBlock, Exit.then])
          refine bodyPost_ret (results_none rfl _ _ _) rfl ?_
          exact ⟨rfl, _, HPM.out, HSRT.out, hrow3, (Upd.same HU0.out).trans hP⟩
end Go.Proofs.Ytifcdfilglbdgaa
