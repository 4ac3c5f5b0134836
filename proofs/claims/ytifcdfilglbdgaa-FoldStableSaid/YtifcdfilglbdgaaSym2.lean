/-
  slices.symMergeCmpFunc: one number behind a sorted part goes to its place.
-/
import Derived.Test.YtifcdfilglbdgaaSym
namespace Go.Proofs.Ytifcdfilglbdgaa
open Go.RowKit

set_option maxHeartbeats 4000000 in
set_option maxRecDepth 100000 in
/-- One number behind a sorted part: to its place. -/
theorem merge_right {B : Nat} {w0 : World} {p q g n cap : Nat} {lt : Int → Int → Bool} {ok : Int → Prop} (hs : SWO lt ok) (hc : CmpOk B w0 #[.pointer (some ⟨p, 0, none⟩), .pointer (some ⟨q, 0, none⟩)] lt ok) (hg : B ≤ g) (hn : n ≤ 1000)
    {w : World} (hB : Below B w0 w) {X L Z : List Int} {y : Int} {a m b : Nat} (hrow : IRow w g n cap (X ++ (L ++ y :: Z))) (ha : a = X.length) (hm : m = X.length + L.length) (hb : b = m + 1) (hL : 1 < L.length)
    (hsL : Srt lt L) (hlate : ∀ x ∈ L, x < y) (hy : ok y) (hok : ∀ x ∈ L, ok x) :
    Calls Try.prog 40 #[.slice (some ⟨g, 0, none⟩) n cap, .int .i64 (a : Int), .int .i64 (m : Int), .int .i64 (b : Int), .func (.func 28) #[] #[.pointer (some ⟨p, 0, none⟩), .pointer (some ⟨q, 0, none⟩)]] w fun r w' =>
      r = .returned (.tuple #[]) ∧ ∃ C, C.Perm (L ++ [y]) ∧ Srt lt C ∧ IRow w' g n cap (X ++ C ++ Z) ∧ Upd (fun b => b = g) w w' := by
  have hl := hrow.len
  simp only [List.length_append, List.length_cons] at hl
  have HC := Lib.hid hc; have HS := Lib.hid hs; have HY := Lib.hid hy; have HOK := Lib.hid hok; have HA := Lib.hid ha; have HLATE := Lib.hid hlate; have HSL := Lib.hid hsL
  have hBw : B ≤ w.heap.size := Nat.le_trans hg (Nat.le_of_lt (World.ownsRow.lt hrow g rfl).2)
  have hub : ∀ wr, Upd (fun b => b = g) w wr → Below B w0 wr := fun wr u => hB.trans (u.below hBw (fun b hb e => by omega))
  have HUB := Lib.hid hub
  have hmn : m < n := by omega
  have ham : a ≤ m := by omega
  have HB2 := Lib.hid hb; have HM2 := Lib.hid hm; have HLL := Lib.hid hL
  have w1 : IntKind.i64.wrap ((m : Int) - (a : Int)) = (L.length : Int) := by rw [show (m : Int) - (a : Int) = (L.length : Int) from by omega]; exact IntWalk.i64_in _ (by omega)
  have w2 : IntKind.i64.wrap ((b : Int) - (m : Int)) = 1 := by rw [show (b : Int) - (m : Int) = 1 from by omega]; exact IntWalk.i64_in _ (by omega)
  have w3 : ¬ (L.length : Int) = 1 := by omega
  obtain ⟨f0, c0⟩ : w.cell? ⟨g, m, none⟩ = some (.int .i64 y) ∧ w.frozen? ⟨g, m, none⟩ = false := hrow.cell (by rw [hm, ← List.append_assoc, ← List.length_append]; exact getElem?_mid)
  have HROW := Lib.hid hrow
  clear hc hs hy hok ha hm hb hlate hsL hub hl hB hg hrow hL
  go_enter Try.func40, Try.ntmps40
  go_wp2_with fail
  clear w1 w2 w3
  generalize Value.bool ((L.length : Int) == 1) = z28
  go_loopw [14, 15] (fun iv jv wr => ∃ i j : Nat, iv = .int .i64 (i : Int) ∧ jv = .int .i64 (j : Int) ∧ a ≤ i ∧ i ≤ j ∧ j ≤ m ∧ Hid (i = a ∨ ∃ x, L[i - a - 1]? = some x ∧ lt y x = false) ∧ Hid (j = m ∨ ∃ x, L[j - a]? = some x ∧ lt y x = true) ∧ Below w.heap.size w wr) (fun iv jv _ => (intOf jv).toNat - (intOf iv).toNat)
  case atStart => exact ⟨a, m, rfl, rfl, Nat.le_refl _, ham, Nat.le_refl _, Lib.hid (.inl rfl), Lib.hid (.inl rfl), Below.refl _ _⟩
  case round =>
    obtain ⟨i, j, rfl, rfl, hi, hij, hj, HI, HJ, hU⟩ := hrel
    by_cases hlt : i < j
    · have b0 : (i : Int) < (j : Int) := by omega
      obtain ⟨h, hh⟩ : ∃ h, h = (i + j) / 2 := ⟨_, rfl⟩
      have hhi : i ≤ h ∧ h < j := by omega
      have a0 : ((i : Int) + (j : Int)) / 2 = (h : Int) := by omega
      obtain ⟨x, hx⟩ : ∃ x, L[h - a]? = some x := ⟨_, List.getElem?_eq_getElem (by have := HA.out; have := HM2.out; omega)⟩
      have hg1 : (X ++ (L ++ y :: Z))[h]? = some x := by
        have h1 := HA.out
        rw [List.getElem?_append_right (by omega), show h - X.length = h - a from by omega, List.getElem?_append_left (List.getElem?_eq_some_iff.1 hx).1]
        exact hx
      obtain ⟨h1, _⟩ := HROW.out.cell hg1
      have hxL : x ∈ L := List.mem_of_getElem? hx
      have hd0 : Below wr.heap.size wr wr.drew := below_drewN (n := 1)
      have k0 := keeper hU f0
      have k1 := keeper hU h1
      have hcall : Calls Try.prog 28 #[.int .i64 y, .int .i64 x, .pointer (some ⟨p, 0, none⟩), .pointer (some ⟨q, 0, none⟩)] wr.drew _ := HC.out wr.drew ((HUB.out _ (Upd.same hU)).trans (below_drewN (n := 1))) y x HY.out (HOK.out x hxL)
      have HCALL := Lib.hid hcall; have HX := Lib.hid hx
      have a1 : (0 : Int) ≤ (h : Int) := by omega
      have a2 : (h : Int) < (n : Int) := by omega
      have a3 : (0 : Int) ≤ (m : Int) := by omega
      have a4 : (m : Int) < (n : Int) := by omega
      clear hcall hg1 h1 hxL hx hh
      go_wp2_with fail
      go_region_held3 (fun z => z.cell? ⟨g, m, none⟩ = some (.int .i64 y) ∧ z.cell? ⟨g, h, none⟩ = some (.int .i64 x))
        (first | (with_reducible exact ⟨keeper hd1 k0, keeper hd1 k1⟩) | (with_reducible exact ⟨keeper hd0 k0, keeper hd0 k1⟩))
        (first | (go_at_call 28; (with_reducible refine HCALL.out.mono ?_); rintro r w1 ⟨⟨c, rfl, hcl0⟩, hk1⟩; have hd1 := below_then hd0 hk1; have hcl := Lib.hid hcl0; clear hcl0))
      go_wp2_with fail
      · rename_i hq
        have HLT := Lib.hid (show lt y x = false by rw [← hcl.out]; simpa using hq)
        go_roundw
        case rel => exact ⟨h + 1, j, by go_num, rfl, by omega, by omega, hj, Lib.hid (.inr ⟨x, by rw [show h + 1 - a - 1 = h - a from by omega]; exact HX.out, HLT.out⟩), HJ, below_then hU hd1⟩
        case measure => simp [intOf]; omega
      · rename_i hq
        have HLT := Lib.hid (show lt y x = true by rw [← hcl.out]; simpa using hq)
        go_roundw
        case rel => exact ⟨i, h, rfl, rfl, hi, by omega, by omega, HI, Lib.hid (.inr ⟨x, HX.out, HLT.out⟩), below_then hU hd1⟩
        case measure => simp [intOf]; omega
    · have hij2 : i = j := by omega
      subst hij2
      have b0 : ¬ (i : Int) < (i : Int) := by omega
      go_wp2_with fail
      have hrow1 := HROW.out.same hU
      obtain ⟨L1, L2, hL12, hl1, hl2⟩ := split_at L (i - a) (by have := HA.out; have := HM2.out; omega)
      have hil : i = (X ++ L1).length := by have := HA.out; rw [List.length_append]; omega
      have hsrt : Srt lt (L1 ++ y :: L2) := by
        have hs0 := HSL.out
        rw [hL12] at hs0
        have hs1 := List.pairwise_append.1 hs0
        have hokL : ∀ z ∈ L1 ++ L2, ok z := fun z hz => HOK.out z (by rw [hL12]; exact hz)
        refine HS.out.join (fun z hz => ?_) hs1.1 (HS.out.join (L := [y]) (M := L2) (fun z hz => ?_) (List.pairwise_singleton _ _) hs1.2.1 ?_) ?_
        · simp only [List.mem_append, List.mem_cons] at hz
          rcases hz with hz | rfl | hz
          · exact hokL z (by simp [hz])
          · exact HY.out
          · exact hokL z (by simp [hz])
        · simp only [List.mem_append, List.mem_singleton] at hz
          rcases hz with rfl | hz
          · exact HY.out
          · exact hokL z (by simp [hz])
        · rcases HJ.out with e | ⟨x, e, e2⟩
          · exact .inr (.inl (List.eq_nil_of_length_eq_zero (by have := HA.out; have := HM2.out; omega)))
          · cases hL2 : L2 with
            | nil => exact .inr (.inl rfl)
            | cons z M =>
              have hz : L[i - a]? = some z := by rw [hL12, hL2, List.getElem?_append_right (by omega), hl1, Nat.sub_self]; rfl
              rw [hz] at e
              cases e
              exact .inr (.inr ⟨[], y, x, M, rfl, rfl, .inl e2⟩)
        · rcases HI.out with e | ⟨x, e, e2⟩
          · exact .inl (List.eq_nil_of_length_eq_zero (by omega))
          · rcases List.eq_nil_or_concat L1 with h0 | ⟨L', l, h0⟩
            · exact .inl h0
            · rw [List.concat_eq_append] at h0
              have hll : L1.length = L'.length + 1 := by rw [h0]; simp
              have hz : L[i - a - 1]? = some l := by rw [hL12, h0, List.append_assoc, List.getElem?_append_right (by omega), show i - a - 1 - L'.length = 0 from by omega]; rfl
              rw [hz] at e
              cases e
              exact .inr (.inr ⟨L', x, y, L2, h0, rfl, .inr ⟨e2, HLATE.out x (List.mem_of_getElem? hz)⟩⟩)
      have hpm : (L1 ++ y :: L2).Perm (L ++ [y]) := by rw [hL12]; exact List.perm_middle.trans (List.perm_append_singleton y _).symm
      rw [hL12] at hrow1
      have hrow2 : IRow wr g n cap ((X ++ L1) ++ (L2 ++ y :: ([] ++ Z))) := by simpa using hrow1
      have hmx : m = (X ++ L1).length + L2.length := by have := HA.out; have := HM2.out; omega
      have HSRT := Lib.hid hsrt; have HPM := Lib.hid hpm; have HU0 := Lib.hid hU; have HIL := Lib.hid hil; have HMX := Lib.hid hmx
      clear hrow1 hL12 hl1 hl2 hsrt hpm hij HI HJ hil hmx
      go_wp2_with fail
      obtain ⟨wo, hwo⟩ : ∃ wo, wo = wr := ⟨_, rfl⟩
      subst hwo
      go_loopw [17] (fun kv wq => ∃ (k : Nat) (P Q : List Int), kv = .int .i64 (k : Int) ∧ Hid (L2 = P ++ Q ∧ k = ((X ++ L1) ++ P).length) ∧ i ≤ k ∧ k ≤ m ∧ IRow wq g n cap ((X ++ L1) ++ P ++ y :: (Q ++ Z)) ∧ Upd (fun b => b = g) wo wq) (fun kv _ => (intOf kv).toNat)
      case atStart => exact ⟨m, L2, [], rfl, Lib.hid ⟨by simp, by rw [HMX.out, List.length_append, List.length_append, List.length_append]⟩, by omega, Nat.le_refl _, by simpa using hrow2, Upd.refl _ _⟩
      case round =>
        clear hrow2
        obtain ⟨k, P, Q, rfl, HK, hk, hkm, hrow, hP⟩ := hrel
        have hkl := HK.out.2
        by_cases hlt : i < k
        · have b2 : (k : Int) > (i : Int) := by omega
          rcases List.eq_nil_or_concat P with hp | ⟨P', x, hp⟩
          · exfalso
            rw [hp, List.append_nil, ← HIL.out] at hkl
            omega
          rw [List.concat_eq_append] at hp
          subst hp
          obtain ⟨k1, hk1⟩ : ∃ k1, k1 = ((X ++ L1) ++ P').length := ⟨_, rfl⟩
          have hkk : k = k1 + 1 := by rw [hkl, hk1]; simp only [List.length_append, List.length_cons, List.length_nil]; omega
          have hrow0 : IRow wr g n cap (((X ++ L1) ++ P') ++ x :: y :: (Q ++ Z)) := by simpa using hrow
          obtain ⟨h0, z0⟩ := hrow0.cell (i := k1) (by rw [hk1]; exact getElem?_mid)
          obtain ⟨h1, z1⟩ := hrow0.cell (i := k1 + 1) (by rw [hk1]; exact getElem?_mid1)
          have hsw := irow_swap hrow0
          rw [← hk1] at hsw
          have hrow3 : IRow ((wr.setCell ⟨g, k1 + 1, none⟩ (.int .i64 x)).setCell ⟨g, k1, none⟩ (.int .i64 y)).drew g n cap ((X ++ L1) ++ P' ++ y :: ((x :: Q) ++ Z)) := hsw
          have hus : Upd (fun b => b = g) wr ((wr.setCell ⟨g, k1 + 1, none⟩ (.int .i64 x)).setCell ⟨g, k1, none⟩ (.int .i64 y)).drew := (((Upd.refl (fun b => b = g) wr).setCell (a := ⟨g, k1 + 1, none⟩) _ (fun _ => rfl)).setCell (a := ⟨g, k1, none⟩) _ (fun _ => rfl)).drew
          have HN := Lib.hid (show L2 = P' ++ (x :: Q) ∧ k1 = ((X ++ L1) ++ P').length from ⟨by rw [HK.out.1]; simp, hk1⟩)
          have HR3 := Lib.hid hrow3
          subst hkk
          have b3 : ((k1 : Int) + 1) > (i : Int) := by omega
          have a5 : IntKind.i64.wrap ((k1 : Int) + 1 - 1) = (k1 : Int) := by rw [show (k1 : Int) + 1 - 1 = (k1 : Int) from by omega]; exact IntWalk.i64_in _ (by omega)
          have a4 : IntKind.i64.wrap (k1 : Int) = (k1 : Int) := IntWalk.i64_in _ (by omega)
          have a6 : ((k1 : Int) + 1).toNat = k1 + 1 := by omega
          have a7 : (0 : Int) ≤ (k1 : Int) := by omega
          have a8 : (k1 : Int) < (n : Int) := by omega
          have a9 : (0 : Int) ≤ (k1 : Int) + 1 := by omega
          have a10 : (k1 : Int) + 1 < (n : Int) := by omega
          rw [show ((k1 + 1 : Nat) : Int) = (k1 : Int) + 1 from by omega] at b2 ⊢
          clear hrow hrow0 hrow3 hsw hkl HK hk1
          go_wp2_with fail
          go_region
          go_wp2_with fail
          go_roundw
          case rel => exact ⟨k1, P', x :: Q, rfl, HN, by omega, by omega, HR3.out, hP.trans hus⟩
          case measure => simp [intOf] <;> omega
        · have hke : k = i := by omega
          subst hke
          have hp : P = [] := List.eq_nil_of_length_eq_zero (by
            have h1 := HIL.out; have h4 := hkl
            rw [List.length_append] at h4
            omega)
          subst hp
          have hp1 : Q = L2 := by rw [HK.out.1]; simp
          subst hp1
          have hrow3 : IRow wr g n cap (X ++ (L1 ++ y :: Q) ++ Z) := by simpa using hrow
          have b2 : ¬ (k : Int) > (k : Int) := by omega
          clear hrow hkl HK
          go_wp2_with fail
          (try simp only [Exit.inBlock, Exit.then])
          refine bodyPost_ret (results_none rfl _ _ _) rfl ?_
          exact ⟨rfl, _, HPM.out, HSRT.out, by simpa using hrow3, (Upd.same HU0.out).trans hP⟩
end Go.Proofs.Ytifcdfilglbdgaa
