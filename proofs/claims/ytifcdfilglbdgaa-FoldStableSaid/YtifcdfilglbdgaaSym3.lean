/-
  slices.symMergeCmpFunc: two sorted parts of a row of numbers, side by side, become one.
-/
import Derived.Test.YtifcdfilglbdgaaSym2
import Derived.Test.YtifcdfilglbdgaaSymP
import Derived.Deep.CutRange
namespace Go.Proofs.Ytifcdfilglbdgaa
open Go.RowKit

set_option maxHeartbeats 8000000 in
set_option maxRecDepth 100000 in
/-- Both parts are longer than one. -/
theorem merge_gen {s : Nat} (ih : MergeOk s) {B : Nat} {w0 : World} {p q g n cap : Nat} {lt : Int → Int → Bool} {ok : Int → Prop} (hs : SWO lt ok) (hc : CmpOk B w0 #[.pointer (some ⟨p, 0, none⟩), .pointer (some ⟨q, 0, none⟩)] lt ok) (hg : B ≤ g) (hn : n ≤ 1000)
    {w : World} (hB : Below B w0 w) {X L R Z : List Int} {a m b : Nat} (hrow : IRow w g n cap (X ++ L ++ R ++ Z)) (ha : a = X.length) (hm : m = X.length + L.length) (hb : b = X.length + L.length + R.length) (hL : 1 < L.length) (hR : 1 < R.length) (hlen : L.length + R.length ≤ s + 1)
    (hsL : Srt lt L) (hsR : Srt lt R) (hlate : ∀ x ∈ L, ∀ y ∈ R, x < y) (hok : ∀ x ∈ L ++ R, ok x) :
    Calls Try.prog 40 #[.slice (some ⟨g, 0, none⟩) n cap, .int .i64 (a : Int), .int .i64 (m : Int), .int .i64 (b : Int), .func (.func 28) #[] #[.pointer (some ⟨p, 0, none⟩), .pointer (some ⟨q, 0, none⟩)]] w fun r w' =>
      r = .returned (.tuple #[]) ∧ ∃ C, C.Perm (L ++ R) ∧ Srt lt C ∧ IRow w' g n cap (X ++ C ++ Z) ∧ Upd (fun b => b = g) w w' := by
  have hl := hrow.len
  simp only [List.length_append] at hl
  have hBw : B ≤ w.heap.size := Nat.le_trans hg (Nat.le_of_lt (World.ownsRow.lt hrow g rfl).2)
  have hub : ∀ wr, Upd (fun b => b = g) w wr → Below B w0 wr := fun wr u => hB.trans (u.below hBw (fun b hb e => by omega))
  have HUB := Lib.hid hub
  have HCMP := Lib.hid (fun w' hb x y hx hy => hc w' hb x y hx hy)
  have hih : ∀ wr, Upd (fun b => b = g) w wr → ∀ {X2 L2 R2 Z2 : List Int} {a2 m2 b2 : Nat}, IRow wr g n cap (X2 ++ L2 ++ R2 ++ Z2) → a2 = X2.length → m2 = X2.length + L2.length → b2 = X2.length + L2.length + R2.length → 0 < L2.length → 0 < R2.length → L2.length + R2.length ≤ s →
    Srt lt L2 → Srt lt R2 → (∀ x ∈ L2, ∀ y ∈ R2, x < y) → (∀ x ∈ L2 ++ R2, ok x) → Calls Try.prog 40 #[.slice (some ⟨g, 0, none⟩) n cap, .int .i64 (a2 : Int), .int .i64 (m2 : Int), .int .i64 (b2 : Int), .func (.func 28) #[] #[.pointer (some ⟨p, 0, none⟩), .pointer (some ⟨q, 0, none⟩)]] wr _ :=
    fun wr u {X2 L2 R2 Z2 a2 m2 b2} => ih hs hc hg hn (hub wr u)
  have HIH := Lib.hid hih
  obtain ⟨mid, hmid⟩ : ∃ mid, mid = (a + b) / 2 := ⟨_, rfl⟩
  obtain ⟨nn, hnn⟩ : ∃ nn, nn = mid + m := ⟨_, rfl⟩
  have hbn : b ≤ n := by omega
  have f1 : a < mid := by omega
  have f2 : mid < b := by omega
  have f3 : m < b := by omega
  have f4 : a < m := by omega
  have f5 : nn ≤ a + b ∨ mid < m := by omega
  have w1 : IntKind.i64.wrap ((m : Int) - (a : Int)) = (L.length : Int) := by rw [show (m : Int) - (a : Int) = (L.length : Int) from by omega]; exact IntWalk.i64_in _ (by omega)
  have w2 : IntKind.i64.wrap ((b : Int) - (m : Int)) = (R.length : Int) := by rw [show (b : Int) - (m : Int) = (R.length : Int) from by omega]; exact IntWalk.i64_in _ (by omega)
  have w3 : ¬ (L.length : Int) = 1 := by omega
  have w4 : ¬ (R.length : Int) = 1 := by omega
  have w5 : ((a : Int) + (b : Int)) / 2 = (mid : Int) := by omega
  have w6 : IntKind.i64.wrap ((mid : Int) + (m : Int)) = (nn : Int) := by rw [show (mid : Int) + (m : Int) = (nn : Int) from by omega]; exact IntWalk.i64_in _ (by omega)
  have HA := Lib.hid ha; have HM := Lib.hid hm; have HBB := Lib.hid hb; have HLEN := Lib.hid hlen; have HS := Lib.hid hs; have HSL := Lib.hid hsL; have HSR := Lib.hid hsR; have HLATE := Lib.hid hlate; have HOK := Lib.hid hok; have HMID := Lib.hid hmid; have HNN := Lib.hid hnn; have HROW := Lib.hid hrow
  have HF1 := Lib.hid f1; have HF2 := Lib.hid f2; have HF3 := Lib.hid f3; have HF4 := Lib.hid f4
  have hfl : nn ≤ 2000 := by omega
  have hml : mid < m → b ≤ nn ∧ nn ≤ mid + b ∧ a ≤ nn - b := by omega
  have HML := Lib.hid hml
  clear hs hc hok ha hm hb hlate hsL hsR hub hl hB hg hrow hL hR hih ih hlen hmid hnn hml f1 f2
  go_enter Try.func40, Try.ntmps40
  go_upto_if 140 with fail
  clear w1 w2 w3 w4 w5 w6 f3 f4
  go_cut [20, 21] from 25 (fun sv rv wx => ∃ lo hi : Nat, sv = .int .i64 (lo : Int) ∧ rv = .int .i64 (hi : Int) ∧ a ≤ lo ∧ lo ≤ hi ∧ hi ≤ m ∧ hi ≤ mid ∧ nn ≤ lo + b ∧ Hid (lo = a ∨ lo + b = nn) ∧ Hid (hi = m ∨ hi = mid) ∧ wx = w)
  case first => as_aux_lemma =>
    by_cases hc : mid < m
    · obtain ⟨q1, q2, q3⟩ := HML.out hc
      obtain ⟨lo, hlo⟩ : ∃ lo, lo = nn - b := ⟨_, rfl⟩
      have c1 : (m : Int) > (mid : Int) := by omega
      have c2 : IntKind.i64.wrap ((nn : Int) - (b : Int)) = (lo : Int) := by rw [show (nn : Int) - (b : Int) = (lo : Int) from by omega]; exact IntWalk.i64_in _ (by omega)
      have HLO := Lib.hid hlo
      clear hlo
      go_wp2_with fail
      go_meet
      have hlo := HLO.out
      exact ⟨lo, mid, rfl, rfl, by omega, by omega, by omega, Nat.le_refl _, by omega, Lib.hid (.inr (by omega)), Lib.hid (.inr rfl), rfl⟩
    · have c1 : ¬ (m : Int) > (mid : Int) := by omega
      have := HF4.out
      go_wp2_with fail
      go_meet
      exact ⟨a, m, rfl, rfl, Nat.le_refl _, by omega, Nat.le_refl _, by omega, by omega, Lib.hid (.inl rfl), Lib.hid (.inl rfl), rfl⟩
  case rest =>
    obtain ⟨lo, hi, rfl, rfl, hlo1, hlh, hi1, hi2, hlo2, HLO, HHI, rfl⟩ := hcut
    obtain ⟨wv, hwv⟩ : ∃ wv, wv = wc := ⟨_, rfl⟩
    subst hwv
    have w7 : IntKind.i64.wrap ((nn : Int) - 1) = (nn : Int) - 1 := IntWalk.i64_in _ (by have := HF4.out; have := HNN.out; omega)
    go_wp2_with fail
    clear w7
    go_loopw [20, 21] (fun sv rv wr => ∃ st r : Nat, sv = .int .i64 (st : Int) ∧ rv = .int .i64 (r : Int) ∧ lo ≤ st ∧ st ≤ r ∧ r ≤ hi ∧ Hid (st = lo ∨ ∃ x y, lo < st ∧ L[st - 1 - a]? = some x ∧ R[nn - st - m]? = some y ∧ lt y x = false) ∧ Hid (r = hi ∨ ∃ x y, r < hi ∧ L[r - a]? = some x ∧ R[nn - 1 - r - m]? = some y ∧ lt y x = true) ∧ Below wv.heap.size wv wr) (fun sv rv _ => (intOf rv).toNat - (intOf sv).toNat)
    case atStart => exact ⟨lo, hi, rfl, rfl, Nat.le_refl _, hlh, Nat.le_refl _, Lib.hid (.inl rfl), Lib.hid (.inl rfl), Below.refl _ _⟩
    case round =>
      obtain ⟨st, r, rfl, rfl, h1, h2, h3, HI, HJ, hU⟩ := hrel
      by_cases hlt : st < r
      · as_aux_lemma =>
        have b0 : (st : Int) < (r : Int) := by omega
        obtain ⟨c, hc⟩ : ∃ c, c = (st + r) / 2 := ⟨_, rfl⟩
        have hcc : st ≤ c ∧ c < r := by omega
        have a0 : ((st : Int) + (r : Int)) / 2 = (c : Int) := by omega
        obtain ⟨d, hd⟩ : ∃ d, d = nn - 1 - c := ⟨_, rfl⟩
        have hdm : m ≤ d ∧ d < b := by have := HNN.out; omega
        have a1 : IntKind.i64.wrap ((nn : Int) - 1 - (c : Int)) = (d : Int) := by rw [show (nn : Int) - 1 - (c : Int) = (d : Int) from by have := HNN.out; omega]; exact IntWalk.i64_in _ (by omega)
        obtain ⟨x, hx⟩ : ∃ x, L[c - a]? = some x := ⟨_, List.getElem?_eq_getElem (by have := HA.out; have := HM.out; omega)⟩
        obtain ⟨y, hy⟩ : ∃ y, R[d - m]? = some y := ⟨_, List.getElem?_eq_getElem (by have := HBB.out; have := HM.out; omega)⟩
        have hg1 : (X ++ L ++ R ++ Z)[c]? = some x := by
          have q1 := HA.out
          have q2 := (List.getElem?_eq_some_iff.1 hx).1
          rw [List.append_assoc, List.append_assoc, List.getElem?_append_right (by omega), show c - X.length = c - a from by omega, List.getElem?_append_left q2]
          exact hx
        have hg2 : (X ++ L ++ R ++ Z)[d]? = some y := by
          have q1 := HM.out
          have q2 := (List.getElem?_eq_some_iff.1 hy).1
          rw [List.append_assoc, List.getElem?_append_right (by rw [List.length_append]; omega), List.length_append, show d - (X.length + L.length) = d - m from by omega, List.getElem?_append_left q2]
          exact hy
        obtain ⟨k0', _⟩ := HROW.out.cell hg1
        obtain ⟨k1', _⟩ := HROW.out.cell hg2
        have k0 := keeper hU k0'
        have k1 := keeper hU k1'
        have hxL : ok x := HOK.out x (List.mem_append.2 (.inl (List.mem_of_getElem? hx)))
        have hyR : ok y := HOK.out y (List.mem_append.2 (.inr (List.mem_of_getElem? hy)))
        have hd0 : Below wr.heap.size wr wr.drew := below_drewN (n := 1)
        have hcall : Calls Try.prog 28 #[.int .i64 y, .int .i64 x, .pointer (some ⟨p, 0, none⟩), .pointer (some ⟨q, 0, none⟩)] wr.drew _ := HCMP.out wr.drew ((HUB.out _ (Upd.same hU)).trans (below_drewN (n := 1))) y x hyR hxL
        have HCALL := Lib.hid hcall; have HX := Lib.hid hx; have HY := Lib.hid hy; have HD := Lib.hid hd
        have a2 : (0 : Int) ≤ (c : Int) := by omega
        have a3 : (c : Int) < (n : Int) := by have := HF3.out; omega
        have a4 : (0 : Int) ≤ (d : Int) := by omega
        have a5 : (d : Int) < (n : Int) := by omega
        have g1 : lo < c + 1 := by omega
        have g2 : c + 1 ≤ r := by omega
        have g3 : c < hi := by omega
        have g4 : st ≤ c := hcc.1
        clear hcall hg1 hg2 k0' k1' hxL hyR hx hy hc hd hcc hdm
        go_wp2_with fail
        go_region_held3 (fun z => z.cell? ⟨g, c, none⟩ = some (.int .i64 x) ∧ z.cell? ⟨g, d, none⟩ = some (.int .i64 y))
          (first | (with_reducible exact ⟨keeper hd1 k0, keeper hd1 k1⟩) | (with_reducible exact ⟨keeper hd0 k0, keeper hd0 k1⟩))
          (first | (go_at_call 28; (with_reducible refine HCALL.out.mono ?_); rintro rr w1 ⟨⟨cc, rfl, hcl0⟩, hk1⟩; have hd1 := below_then hd0 hk1; have hcl := Lib.hid hcl0; clear hcl0))
        go_wp2_with fail
        · rename_i hq
          have HLT := Lib.hid (show lt y x = false by rw [← hcl.out]; simpa using hq)
          go_roundw
          case rel => exact ⟨c + 1, r, by go_num, rfl, by omega, g2, h3, Lib.hid (.inr ⟨x, y, g1, by rw [show c + 1 - 1 - a = c - a from by omega]; exact HX.out, by rw [show nn - (c + 1) - m = d - m from by have := HD.out; omega]; exact HY.out, HLT.out⟩), HJ, below_then hU hd1⟩
          case measure => simp [intOf]; omega
        · rename_i hq
          have HLT := Lib.hid (show lt y x = true by rw [← hcl.out]; simpa using hq)
          go_roundw
          case rel => exact ⟨st, c, rfl, rfl, h1, g4, by omega, HI, Lib.hid (.inr ⟨x, y, g3, HX.out, by rw [show nn - 1 - c - m = d - m from by have := HD.out; omega]; exact HY.out, HLT.out⟩), below_then hU hd1⟩
          case measure => simp [intOf]; omega
      · have hij2 : st = r := by omega
        subst hij2
        have b0 : ¬ (st : Int) < (st : Int) := by omega
        obtain ⟨e, he⟩ : ∃ e, e = nn - st := ⟨_, rfl⟩
        have q1 := HA.out; have q2 := HM.out; have q3 := HBB.out; have q4 := HNN.out
        have hem : m ≤ e ∧ e ≤ b := by omega
        have a1 : IntKind.i64.wrap ((nn : Int) - (st : Int)) = (e : Int) := by rw [show (nn : Int) - (st : Int) = (e : Int) from by omega]; exact IntWalk.i64_in _ (by omega)
        obtain ⟨A1, A2, hA12, la1, la2⟩ := split_at L (st - a) (by omega)
        obtain ⟨B1, B2, hB12, lb1, lb2⟩ := split_at R (e - m) (by omega)
        have hcross : ∀ x ∈ A1 ++ B1, ∀ y ∈ A2 ++ B2, bf lt x y := by
          refine HS.out.cuts HOK.out HSL.out HSR.out HLATE.out hA12 hB12 la1 lb1 ?_ ?_
          · rcases HI.out with e1 | ⟨x, y, e1, e2, e3, e4⟩
            · rcases HLO.out with e2 | e2
              · exact .inl (by omega)
              · exact .inr (.inl (by omega))
            · exact .inr (.inr ⟨x, y, by omega, by rw [show st - a - 1 = st - 1 - a from by omega]; exact e2, by rw [show e - m = nn - st - m from by omega]; exact e3, e4⟩)
          · rcases HJ.out with e1 | ⟨x, y, e1, e2, e3, e4⟩
            · rcases HHI.out with e2 | e2
              · exact .inr (.inl (by omega))
              · exact .inl (by omega)
            · exact .inr (.inr ⟨x, y, by omega, e2, by rw [show e - m - 1 = nn - 1 - st - m from by omega]; exact e3, e4⟩)
        have hrow1 := HROW.out.same hU
        have hUw := Upd.same (S := fun b => b = g) hU
        have sA := List.pairwise_append.1 (by have := HSL.out; rw [hA12] at this; exact this : Srt lt (A1 ++ A2))
        have sB := List.pairwise_append.1 (by have := HSR.out; rw [hB12] at this; exact this : Srt lt (B1 ++ B2))
        have hok2 : ∀ x ∈ (A1 ++ A2) ++ (B1 ++ B2), ok x := by have := HOK.out; rw [hA12, hB12] at this; exact this
        have hlate2 : ∀ x ∈ A1 ++ A2, ∀ y ∈ B1 ++ B2, x < y := by have := HLATE.out; rw [hA12, hB12] at this; exact this
        have hlen := HLEN.out
        have hst1 : st = X.length + A1.length := by omega
        have hm1 : m = X.length + A1.length + A2.length := by omega
        have he1 : e = X.length + A1.length + A2.length + B1.length := by omega
        have hmid1 : mid = X.length + A1.length + B1.length := by omega
        have hb1 : b = X.length + A1.length + A2.length + B1.length + B2.length := by omega
        have hs1 : A1.length + B1.length ≤ s := by have := HF2.out; omega
        have hs2 : A2.length + B2.length ≤ s := by have := HF1.out; omega
        have HE1 := Lib.hid (⟨hst1, hm1, he1, hmid1, hb1, hs1, hs2⟩ : st = X.length + A1.length ∧ m = X.length + A1.length + A2.length ∧ e = X.length + A1.length + A2.length + B1.length ∧ mid = X.length + A1.length + B1.length ∧ b = X.length + A1.length + A2.length + B1.length + B2.length ∧ A1.length + B1.length ≤ s ∧ A2.length + B2.length ≤ s)
        have HSA := Lib.hid sA; have HSB := Lib.hid sB; have HOK2 := Lib.hid hok2; have HL2 := Lib.hid hlate2; have HX := Lib.hid hcross
        have HEQ := Lib.hid (⟨hA12, hB12⟩ : L = A1 ++ A2 ∧ R = B1 ++ B2)
        have HUW := Lib.hid hUw
        rw [hA12, hB12] at hrow1
        have HR1 := Lib.hid hrow1
        have hwz : Upd (fun b => b = g) wv wr := hUw
        clear sA sB hok2 hlate2 hcross hrow1 hUw hA12 hB12 la1 la2 lb1 lb2 hst1 hm1 he1 hmid1 hb1 hs1 hs2 hlen q1 q2 q3 q4 h1 h2 h3 HI HJ HLO HHI hlo1 hlo2 hlh hi1 hi2 hem he hU hlt
        go_upto_region 39 with fail
        have he0 := HE1.out
        go_cut [185] from 25 (fun v wx => ∃ bb : Bool, v = .bool bb ∧ Hid (bb = true ↔ (0 < A2.length ∧ 0 < B1.length)) ∧ wx = wr)
        case first => as_aux_lemma =>
          by_cases hA2 : 0 < A2.length
          · have c1 : (st : Int) < (m : Int) := by omega
            by_cases hB1 : 0 < B1.length
            · have c2 : (m : Int) < (e : Int) := by omega
              clear he0
              go_wp2_with fail
              go_meet
              exact ⟨true, rfl, Lib.hid (by simp [hA2, hB1]), rfl⟩
            · have c2 : ¬ (m : Int) < (e : Int) := by omega
              clear he0
              go_wp2_with fail
              go_meet
              exact ⟨false, rfl, Lib.hid (by simp [hB1]), rfl⟩
          · have c1 : ¬ (st : Int) < (m : Int) := by omega
            clear he0
            go_wp2_with fail
            go_meet
            exact ⟨false, rfl, Lib.hid (by simp [hA2]), rfl⟩
        case rest =>
        obtain ⟨bb, rfl, HB3, hwt⟩ := hcut
        obtain ⟨wt, hwt2⟩ : ∃ wt, wt = wc := ⟨_, rfl⟩
        subst hwt2
        subst hwt
        clear he0
        go_upto_if 185 with fail
        have he0 := HE1.out
        go_cut [] from 25 (fun wx => IRow wx g n cap (X ++ A1 ++ B1 ++ A2 ++ B2 ++ Z) ∧ Upd (fun b => b = g) wv wx)
        case first => as_aux_lemma =>
          cases bb with
          | false =>
            have h0 : A2 = [] ∨ B1 = [] := by
              rcases Nat.eq_zero_or_pos A2.length with h | h
              · exact .inl (List.eq_nil_of_length_eq_zero h)
              · exact .inr (List.eq_nil_of_length_eq_zero (by
                  rcases Nat.eq_zero_or_pos B1.length with h2 | h2
                  · exact h2
                  · have := HB3.out.2 ⟨h, h2⟩; cases this))
            have hr : X ++ A1 ++ B1 ++ A2 ++ B2 ++ Z = X ++ (A1 ++ A2) ++ (B1 ++ B2) ++ Z := by rcases h0 with rfl | rfl <;> simp
            have HRR := Lib.hid hr
            clear he0 h0 hr
            go_wp2_with fail
            go_meet
            exact ⟨by rw [HRR.out]; exact HR1.out, HUW.out⟩
          | true =>
            have h0 := HB3.out.1 rfl
            have hrot := rotate_at (w := wt) (a := st) (m := m) (b := e) (.func (.func 28) #[] #[.pointer (some ⟨p, 0, none⟩), .pointer (some ⟨q, 0, none⟩)]) hn (X := X ++ A1) (A := A2) (B := B1) (Z := B2 ++ Z) (by simpa using HR1.out) (by rw [List.length_append]; omega) (by rw [List.length_append]; omega) (by rw [List.length_append]; omega) (by omega) (by omega)
            have HROT := Lib.hid hrot
            clear he0 hrot h0
            go_wp2_with fail
            (with_reducible refine HROT.out.mono ?_)
            rintro rr w1 ⟨rfl, hrow, hU1⟩
            go_wp2_with fail
            go_meet
            exact ⟨by simpa using hrow, HUW.out.trans hU1⟩
        case rest =>
        obtain ⟨hrow, hU1⟩ := hcut
        obtain ⟨wy, hwy⟩ : ∃ wy, wy = wc := ⟨_, rfl⟩
        subst hwy
        clear he0
        go_upto_region 41 with fail
        have he0 := HE1.out
        go_cut [199] from 25 (fun v wx => ∃ bb : Bool, v = .bool bb ∧ Hid (bb = true ↔ (0 < A1.length ∧ 0 < B1.length)) ∧ wx = wy)
        case first => as_aux_lemma =>
          by_cases hA2 : 0 < A1.length
          · have c1 : (a : Int) < (st : Int) := by have := HA.out; omega
            by_cases hB1 : 0 < B1.length
            · have c2 : (st : Int) < (mid : Int) := by omega
              clear he0
              go_wp2_with fail
              go_meet
              exact ⟨true, rfl, Lib.hid (by simp [hA2, hB1]), rfl⟩
            · have c2 : ¬ (st : Int) < (mid : Int) := by omega
              clear he0
              go_wp2_with fail
              go_meet
              exact ⟨false, rfl, Lib.hid (by simp [hB1]), rfl⟩
          · have c1 : ¬ (a : Int) < (st : Int) := by have := HA.out; omega
            clear he0
            go_wp2_with fail
            go_meet
            exact ⟨false, rfl, Lib.hid (by simp [hA2]), rfl⟩
        case rest =>
        obtain ⟨b1, rfl, HB4, hwt⟩ := hcut
        obtain ⟨wt2, hwt2⟩ : ∃ wt, wt = wc := ⟨_, rfl⟩
        subst hwt2
        subst hwt
        clear he0
        go_upto_if 199 with fail
        have he0 := HE1.out
        go_cut [] from 25 (fun wx => ∃ C1, Hid (C1.Perm (A1 ++ B1) ∧ Srt lt C1) ∧ IRow wx g n cap (X ++ C1 ++ (A2 ++ B2 ++ Z)) ∧ Upd (fun b => b = g) wv wx)
        case first => as_aux_lemma =>
          cases b1 with
          | false =>
            have h0 : Srt lt (A1 ++ B1) := by
              rcases Nat.eq_zero_or_pos A1.length with h | h
              · rw [List.eq_nil_of_length_eq_zero h]; exact HSB.out.1
              · have h2 : B1.length = 0 := by
                  rcases Nat.eq_zero_or_pos B1.length with h2 | h2
                  · exact h2
                  · have := HB4.out.2 ⟨h, h2⟩; cases this
                rw [List.eq_nil_of_length_eq_zero h2, List.append_nil]; exact HSA.out.1
            have HRR := Lib.hid h0
            clear he0 h0
            go_wp2_with fail
            go_meet
            exact ⟨A1 ++ B1, Lib.hid ⟨List.Perm.refl _, HRR.out⟩, by simpa using hrow, hU1⟩
          | true =>
            have h0 := HB4.out.1 rfl
            have hcall := HIH.out wt2 hU1 (X2 := X) (L2 := A1) (R2 := B1) (Z2 := A2 ++ B2 ++ Z) (a2 := a) (m2 := st) (b2 := mid) (by simpa using hrow) HA.out (by omega) (by omega) (by omega) (by omega) (by omega) HSA.out.1 HSB.out.1 (fun x hx y hy => HL2.out x (by simp [hx]) y (by simp [hy])) (fun x hx => HOK2.out x (by
              rcases List.mem_append.1 hx with hx | hx <;> simp [hx]))
            have HCALL := Lib.hid hcall
            clear he0 hcall hrow h0
            go_wp2_with fail
            (with_reducible refine HCALL.out.mono ?_)
            rintro rr w1 ⟨rfl, C1, p1, s1, hrow, hU2⟩
            have HP1 := Lib.hid (⟨p1, s1⟩ : C1.Perm (A1 ++ B1) ∧ Srt lt C1)
            clear p1 s1
            go_wp2_with fail
            go_meet
            exact ⟨C1, HP1, hrow, hU1.trans hU2⟩
        case rest =>
        obtain ⟨C1, HC1, hrow, hU2⟩ := hcut
        obtain ⟨wq, hwq⟩ : ∃ wq, wq = wc := ⟨_, rfl⟩
        subst hwq
        clear hU1
        have hfin : ∀ C2, C2.Perm (A2 ++ B2) → Srt lt C2 → (C1 ++ C2).Perm (L ++ R) ∧ Srt lt (C1 ++ C2) := fun C2 p2 s2 => by
          refine ⟨?_, srt_halves HC1.out.1 p2 HC1.out.2 s2 HX.out⟩
          have := HEQ.out
          rw [this.1, this.2]
          exact perm_halves HC1.out.1 p2
        have HFIN := Lib.hid hfin
        clear hfin
        by_cases hA2 : A2.length = 0
        · as_aux_lemma =>
          obtain rfl : A2 = [] := List.eq_nil_of_length_eq_zero hA2
          have c1 : ¬ (mid : Int) < (e : Int) := by simp only [List.length_nil] at he0; omega
          clear he0 hA2
          go_wp2_with fail
          go_end0
          exact ⟨rfl, C1 ++ B2, (HFIN.out B2 (List.Perm.refl _) HSB.out.2.1).1, (HFIN.out B2 (List.Perm.refl _) HSB.out.2.1).2, by simpa using hrow, hU2⟩
        · have c1 : (mid : Int) < (e : Int) := by omega
          by_cases hB2 : B2.length = 0
          · as_aux_lemma =>
            obtain rfl : B2 = [] := List.eq_nil_of_length_eq_zero hB2
            have c2 : ¬ (e : Int) < (b : Int) := by simp only [List.length_nil] at he0; omega
            clear he0 hA2 hB2
            go_wp2_with fail
            go_end0
            exact ⟨rfl, C1 ++ A2, (HFIN.out A2 (by rw [List.append_nil]) HSA.out.2.1).1, (HFIN.out A2 (by rw [List.append_nil]) HSA.out.2.1).2, by simpa using hrow, hU2⟩
          · as_aux_lemma =>
            have c2 : (e : Int) < (b : Int) := by omega
            have hcl := HC1.out.1.length_eq
            rw [List.length_append] at hcl
            have hcall := HIH.out wq hU2 (X2 := X ++ C1) (L2 := A2) (R2 := B2) (Z2 := Z) (a2 := mid) (m2 := e) (b2 := b) (by simpa using hrow) (by rw [List.length_append]; omega) (by rw [List.length_append]; omega) (by rw [List.length_append]; omega) (by omega) (by omega) (by omega) HSA.out.2.1 HSB.out.2.1 (fun x hx y hy => HL2.out x (by simp [hx]) y (by simp [hy])) (fun x hx => HOK2.out x (by
              rcases List.mem_append.1 hx with hx | hx <;> simp [hx]))
            have HCALL := Lib.hid hcall
            clear he0 hA2 hB2 hcall hrow hcl
            go_wp2_with fail
            (with_reducible refine HCALL.out.mono ?_)
            rintro rr w1 ⟨rfl, C2, p2, s2, hrow, hU3⟩
            have HP2 := Lib.hid (HFIN.out C2 p2 s2)
            clear p2 s2
            go_wp2_with fail
            go_end0
            exact ⟨rfl, C1 ++ C2, HP2.out.1, HP2.out.2, by simpa using hrow, hU2.trans hU3⟩

/-- slices.symMergeCmpFunc. -/
theorem merge_at (s : Nat) : MergeOk s := by
  induction s with
  | zero =>
    intro B w0 p q g n cap lt ok hs hc hg hn w hB X L R Z a m b hrow ha hm hb hL hR hlen
    omega
  | succ s ih =>
    intro B w0 p q g n cap lt ok hs hc hg hn w hB X L R Z a m b hrow ha hm hb hL hR hlen hsL hsR hlate hok
    by_cases h1 : L.length = 1
    · obtain ⟨x, rfl⟩ := List.length_eq_one_iff.1 h1
      have h := merge_left hs hc hg hn hB (X := X) (R := R) (Z := Z) (x := x) (a := a) (m := m) (b := b) (by simpa using hrow) ha (by simpa using hm) (by simpa using hb) hR hsR (fun y hy => hlate x (by simp) y hy) (hok x (by simp)) (fun y hy => hok y (by simp [hy]))
      exact h
    · by_cases h2 : R.length = 1
      · obtain ⟨y, rfl⟩ := List.length_eq_one_iff.1 h2
        exact merge_right hs hc hg hn hB (X := X) (L := L) (Z := Z) (y := y) (a := a) (m := m) (b := b) (by simpa using hrow) ha hm (by simp only [List.length_cons, List.length_nil] at hb; omega) (by omega) hsL (fun x hx => hlate x hx y (by simp)) (hok y (by simp)) (fun x hx => hok x (by simp [hx]))
      · exact merge_gen ih hs hc hg hn hB hrow ha hm hb (by omega) (by omega) hlen hsL hsR hlate hok
end Go.Proofs.Ytifcdfilglbdgaa
