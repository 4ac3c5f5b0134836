/-
  SnapOne, the walk: a row's versions, each ended by who made the next one; each snapshot sees one at most.
-/
import Derived.Test.YtdohkjpapmkhjaaPlay
import Derived.Test.YtdohkjpapmkhjaaAwakeTen
import Derived.Test.YtdohkjpapmkhjaaTups
import Derived.Test.YtdohkjpapmkhjaaRuns
namespace Go.Proofs.Ytdohkjpapmkhjaa
open Go.RowKit

/-! ### the plain law -/
/-- Each is ended by the next one. -/
def chain : List Int → List (Int × Int)
  | [] => []
  | [x] => [(x, 0)]
  | x :: y :: r => (x, y) :: chain (y :: r)
theorem chain_length : ∀ l : List Int, (chain l).length = l.length
  | [] => rfl
  | [_] => rfl
  | x :: y :: r => by simp [chain, chain_length (y :: r)]
theorem chain_snoc : ∀ (l : List Int) (a x : Int), ∃ pre, chain (l ++ [a]) = pre ++ [(a, 0)] ∧ chain (l ++ [a] ++ [x]) = pre ++ [(a, x)] ++ [(x, 0)]
  | [], a, x => ⟨[], rfl, rfl⟩
  | [y], a, x => ⟨[(y, a)], rfl, rfl⟩
  | y :: z :: r, a, x => by
    obtain ⟨pre, h1, h2⟩ := chain_snoc (z :: r) a x
    refine ⟨(y, z) :: pre, ?_, ?_⟩
    · show (y, z) :: chain (z :: r ++ [a]) = _
      rw [h1]; rfl
    · show (y, z) :: chain (z :: r ++ [a] ++ [x]) = _
      rw [h2]; rfl
theorem chain_at : ∀ (l : List Int) (i : Nat) (h : i < l.length), (chain l)[i]? = some (l[i], l.getD (i + 1) 0)
  | [], i, h => absurd h (by simp)
  | [x], i, h => by
    obtain rfl : i = 0 := by simp at h; omega
    rfl
  | x :: y :: r, 0, h => rfl
  | x :: y :: r, i + 1, h => by
    have := chain_at (y :: r) i (by simp at h ⊢; omega)
    simpa [chain] using this

/-- Behind k of them: none was seen, or one, and those that come begin unseen; or what was counted does not count. -/
def One (n k : Nat) (see : Nat → Bool) (c : Int) : Prop :=
  -100 ≤ c ∧ (c ≤ k - 100 ∨ c ≤ 0 ∨ (c = 1 ∧ (n ≤ k ∨ see k = false ∨ (0 < k ∧ see (k - 1) = false))))
theorem One.start (n : Nat) (see : Nat → Bool) : One n 0 see 0 := ⟨by omega, .inr (.inl (by omega))⟩
theorem One.fine {n k : Nat} {see : Nat → Bool} {c : Int} (h : One n k see c) (hk : k ≤ 13) : c ≤ 1 := by
  obtain ⟨_, h | h | h⟩ := h <;> omega
/-- The one ahead isn't seen, this one is: it does not count any more. -/
theorem One.out {n k : Nat} {see : Nat → Bool} : One n (k + 1) see (-100) ∧ One n (k + 1) see (-100 + 1) := ⟨⟨by omega, .inl (by omega)⟩, ⟨by omega, .inl (by omega)⟩⟩
/-- This one isn't visible. -/
theorem One.skip {n k : Nat} {see : Nat → Bool} {c : Int} (h : One n k see c) (hb : 0 < k → see k = true → see (k - 1) = true) (hk : k < n) : One n (k + 1) see c := by
  obtain ⟨h0, h | h | ⟨h, h2 | h2 | ⟨h3, h4⟩⟩⟩ := h
  · exact ⟨h0, .inl (by omega)⟩
  · exact ⟨h0, .inr (.inl h)⟩
  · omega
  · exact ⟨h0, .inr (.inr ⟨h, .inr (.inr ⟨by omega, h2⟩)⟩)⟩
  · refine ⟨h0, .inr (.inr ⟨h, .inr (.inr ⟨by omega, ?_⟩)⟩)⟩
    show see k = false
    cases hs : see k with
    | false => rfl
    | true => rw [hb h3 hs] at h4; cases h4
/-- This one is visible. -/
theorem One.add {n k : Nat} {see : Nat → Bool} {c : Int} (h : One n k see c) (hb : 0 < k → see k = true → see (k - 1) = true) (hs : see k = true) (hn : n ≤ k + 1 ∨ see (k + 1) = false) (hk : k < n) : One n (k + 1) see (c + 1) := by
  obtain ⟨h0, h | h | ⟨h, h2 | h2 | ⟨h3, h4⟩⟩⟩ := h
  · exact ⟨by omega, .inl (by omega)⟩
  · by_cases h1 : c + 1 ≤ 0
    · exact ⟨by omega, .inr (.inl h1)⟩
    · refine ⟨by omega, .inr (.inr ⟨by omega, ?_⟩)⟩
      rcases hn with hn | hn
      · exact .inl hn
      · exact .inr (.inl hn)
  · omega
  · rw [hs] at h2; cases h2
  · rw [hb h3 hs] at h4; cases h4

theorem getD_at {l : List Int} {i : Nat} (h : i < l.length) {d : Int} : l.getD i d = l[i] := by simp [List.getD_eq_getElem?_getD, h]
theorem One.step {n k : Nat} {see : Nat → Bool} {c : Int} (h : One n k see c) (hb : 0 < k → see k = true → see (k - 1) = true) (hk : k < n) {vb : Bool} (hv : vb = (see k && (decide (n ≤ k + 1) || !see (k + 1)))) : One n (k + 1) see (if vb then c + 1 else c) := by
  cases vb with
  | false => exact h.skip hb hk
  | true =>
    have hv := hv.symm
    rw [Bool.and_eq_true, Bool.or_eq_true, decide_eq_true_eq] at hv
    exact h.add hb hv.1 (hv.2.imp id (fun e => by simpa using e)) hk
theorem One.outs {n k : Nat} {see : Nat → Bool} (vb : Bool) : One n (k + 1) see (if vb then -100 + 1 else -100) := by
  cases vb with
  | false => exact One.out.1
  | true => exact One.out.2

set_option maxHeartbeats 8000000 in
set_option maxRecDepth 100000 in
theorem snapOne_any (a1 : Option Addr) (n1 cap1 : Nat) (a2 : Option Addr) (n2 cap2 : Nat) (w : World) (hs1 : Script2 w a1 n1) (hn2 : n2 ≤ 9223372036854775807) (hs2 : Bytes1 w a2 n2)
    (play : ∀ w1, Script2 w1 a1 n1 → Calls Try.prog 32 #[.slice a1 n1 cap1, .int .i64 40] w1 fun e w' => ∃ pb pl px c sv tv L S, e = .returned (.tuple #[.pointer (some ⟨pb, 0, none⟩), .bool true]) ∧ Pair w1 pb pl px c w' sv tv L L S ∧ L.length ≤ 1000 ∧ S.length ≤ 1000) :
    Calls Try.prog 8 #[.slice a1 n1 cap1, .slice a2 n2 cap2] w fun e w' => e = .returned (.bool true) ∧ Below w.heap.size w w' := by
  have hmm := @run_makeMap Try.prog
  have HS1 := Lib.hid hs1; clear hs1
  have HS2 := Lib.hid hs2; clear hs2
  have HPL := Lib.hid play; clear play
  obtain ⟨i76, hi76, hz760, hz761, hz762⟩ := info_parts Try.info76
  go_enter Try.func8, Try.ntmps8
  go_wp2_with fail
  refine (awake_ten w).mono ?_
  rintro e w1 ⟨rfl, b1⟩
  go_wp2_with fail
  refine (HPL.out w1 (HS1.out.keep b1)).mono ?_
  rintro e w2 ⟨pb, pl, px, c, sv, tv, L, S, rfl, hP, hL1, hS1⟩
  have hB2 : Below w1.heap.size w1 w2 := hP.below
  have k0 : w2.cell? ⟨pb, 0, none⟩ = some (.pointer (some ⟨pl, 0, none⟩)) := cell_of_block hP.blk (i := 0) rfl
  have k2 : w2.cell? ⟨pb, 2, none⟩ = some sv := cell_of_block hP.blk (i := 2) rfl
  have hss := hP.s
  have hsl : ((S.map fun z => (z.1, z.2.1)).length) = S.length := by simp
  obtain ⟨sa, sc, hsv⟩ := ownsRow_slice hss.1
  rw [hsl] at hsv
  subst hsv
  go_wp2_with fail
  have hm0 := MapOf.made w2 (Value.int .u64)
  have hz0 : (w2.alloc (.map #[] 0)).heap.size = w2.heap.size + 1 := by simp
  have hB0 : Below w2.heap.size w2 (w2.alloc (.map #[] 0)) := (Below.refl _ _).alloc (Nat.le_refl _) _
  go_loopw [7, 30] (fun v i wr => ∃ (j : Nat) (xs : List Int) (m : List (Int × Value)), j ≤ n2 ∧ i = .int .i64 j ∧ xs.length ≤ j ∧ xs.length ≤ 12 ∧ (∀ x ∈ xs, x ≠ 0) ∧ Tups (w2.heap.size + 1) wr v (chain xs) ∧ MapOf (Value.int .u64) wr w2.heap.size m ∧
    (∀ y, mget m y = none ∨ mget m y = some (.bool true)) ∧ Below w2.heap.size w2 wr ∧ w2.heap.size + 1 ≤ wr.heap.size) (fun _ i _ => n2 - (intOf i).toNat)
  case atStart => exact ⟨0, [], [], Nat.zero_le _, rfl, Nat.le_refl _, by decide, (fun x hx => by cases hx), Tups.nil _ _, hm0, fun y => .inl rfl, hB0, by omega⟩
  case round =>
    clear hm0 hB0 hz0
    obtain ⟨j, xs, m, hj, rfl, hxj, hx12, hx0, ht, hm, hmv, hB, hzz⟩ := hrel
    obtain ⟨la, lc, hv⟩ := ht.slice
    rw [chain_length] at hv
    subst hv
    have hBw := b1.trans ((hB2.trans (hB.mono hB2.size)).mono b1.size)
    by_cases hlt : j < n2
    · obtain ⟨b, off, d, ha, hb, e0, d0, d1⟩ := HS2.out j hlt
      subst ha
      have e0' := (hBw.cell (p := ⟨b, off + j, none⟩) hb).trans e0
      clear e0 hBw
      by_cases h12 : j < 12
      · by_cases hz : d % 40 = 0
        · have hq : (d % 40 == 0) = true := by rw [beq_iff_eq]; exact hz
          have hj12 : (j : Int) < 12 := by omega
          clear hz
          go_wp2_with fail
          go_roundw
          case rel => exact ⟨j + 1, xs, m, by omega, by go_num, by omega, hx12, hx0, by unfold Tups at ht ⊢; simpa [chain_length] using ht, hm, hmv, hB, hzz⟩
          case measure => simp [intOf]; omega
        · have hq : (d % 40 == 0) = false := by rw [beq_eq_false_iff_ne]; exact hz
          have hj12 : (j : Int) < 12 := by omega
          have hlk : (Instr.lookup 54 (.map (some w2.heap.size)) (.int .u64 (d % 40)) false).run Try.prog wr = .ok ((mget m (d % 40)).getD (.bool false)) wr := by
            rw [run_lookup_map hm key23 Try.underlying54 (zero4 _)]; rfl
          rcases hmv (d % 40) with hu | hu
          · rw [hu] at hlk
            have hlk2 : (Instr.lookup 54 (.map (some w2.heap.size)) (.int .u64 (d % 40)) false).run Try.prog wr = .ok (.bool false) wr := hlk
            clear hlk hu
            have HZ := Lib.hid hz; clear hz
            have hmvn : ∀ y, mget (mset m (d % 40) (.bool true)) y = none ∨ mget (mset m (d % 40) (.bool true)) y = some (.bool true) := fun y => by
              rw [mget_mset]; split
              · exact .inr rfl
              · exact hmv y
            by_cases hxn : xs = []
            · subst hxn
              have hlz : (0 : Int) < ((([] : List Int).length : Nat) : Int) ↔ False := by simp
              clear hlz
              go_wp2_with (at_mapUpdate; refine wpList_update_map rfl _ _ _ 54 rfl 23 4 key23 Try.underlying54 _ _ rfl hm (d % 40) (.bool true) rfl rfl ?_; intro wb hmb hub; clear hlk2)
              have htb := ht.upd hub (fun b hb e => by omega)
              have hBb : Below w2.heap.size w2 wb := hB.trans (hub.below (by omega) (fun b hb e => by omega))
              have hzb := hub.size
              clear hm hub ht hB
              refine (tuple_at (d % 40) 0 wb).mono ?_
              rintro e wt ⟨rfl, bt⟩
              have htt := htb.same bt
              unfold tup
              go_wp2_with (at_builtin; refine wpList_append_mine rfl (.tmp 61) (.tmp 64) 72 rfl (w2.heap.size + 1) 76 i76 (.agg #[.int .u64 0, .int .u64 0, .int .u64 0, .int .i64 0, .int .i64 0, .slice none 0 0]) 6 64 Try.underlying72 hi76 hz760 hz761 hz762 rfl (by decide) _ _ _ rfl (World.ownsRow.alloc htt _) ⟨wt.heap.size, 0, none⟩ 1 1 (tcells (d % 40, 0)) rfl rfl ?c1 ?c2 ?c3 ?c4 ?c5 ?_)
              case c1 => exact news_block (heap_new1 wt _)
              case c2 => exact tcells_one _
              case c3 => first | decide | (unfold maxLen; simp only [List.length_append, List.length_singleton]; omega)
              case c4 => first | decide | (simp only [List.length_append, List.length_singleton]; omega)
              case c5 => have := bt.size; simp; omega
              intro v' w5 hown' hupd hnew
              have hu5 : Upd (fun b => w2.heap.size + 1 ≤ b) wb w5 := ((Upd.same (bt.alloc bt.size _))).trans (hupd.mono (fun b _ e => (World.ownsRow.lt htt b e).1))
              have hm5 := hmb.upd hu5 (by omega)
              have hB5 : Below w2.heap.size w2 w5 := hBb.trans (hu5.below (by omega) (fun b hb e => by omega))
              have htn : Tups (w2.heap.size + 1) w5 v' (chain ([] ++ [d % 40])) := Tups.snoc (l := []) (x := (d % 40, 0)) hown'
              go_wp2_with fail
              go_roundw
              case rel => exact ⟨j + 1, [] ++ [d % 40], _, by omega, by go_num, by simp, by simp, (fun x hx => by have hx := List.mem_singleton.1 hx; subst hx; exact HZ.out), htn, hm5, hmvn, hB5, by have := hu5.size; omega⟩
              case measure => simp [intOf]; omega
            · obtain ⟨ys, a, hys⟩ : ∃ ys a, xs = ys ++ [a] := ⟨xs.dropLast, xs.getLast hxn, (List.dropLast_concat_getLast hxn).symm⟩
              clear hxn
              subst hys
              obtain ⟨pre, hc1, hc2⟩ := chain_snoc ys a (d % 40)
              have hpl : pre.length = ys.length := by have := congrArg List.length hc1; rw [chain_length] at this; simp at this; omega
              have hyl : (ys ++ [a]).length = ys.length + 1 := by simp
              rw [hyl, ← hpl] at hx12 ht
              rw [hyl, ← hpl] at hxj
              rw [hyl, ← hpl]
              rw [hc1] at ht
              have HPN := Lib.hid hpl
              have HC2 := Lib.hid hc2
              clear hpl hyl hc1 hc2
              have hib : (pre.length : Int) < ((pre.length + 1 : Nat) : Int) := by omega
              have hib2 : (pre.length : Int) < (pre.length : Int) + 1 := by omega
              obtain ⟨g, cap, hgs, hgB, _⟩ := ht.at (i := pre.length) (by simp)
              rw [List.length_append, List.length_singleton] at hgs
              simp only [Value.slice.injEq, true_and] at hgs
              obtain ⟨rfl, rfl⟩ := hgs
              have hfin : ∀ wb, Upd (fun k => k = w2.heap.size) wr wb → Tups (w2.heap.size + 1) wb (.slice (some ⟨g, 0, none⟩) (pre.length + 1) lc) (pre ++ [(a, 0)]) ∧ Below w2.heap.size w2 wb ∧ wb.frozen? ⟨g, pre.length * 6 + 2, none⟩ = false ∧ wb.cell? ⟨g, pre.length * 6 + 2, none⟩ = some (.int .u64 0) := fun wb hub => by
                have htb := ht.upd hub (fun b hb e => by omega)
                obtain ⟨g', cap', hgs, _, hfz, _, _, c2, _⟩ := htb.at (i := pre.length) (by simp)
                simp only [Value.slice.injEq, Option.some.injEq, Addr.mk.injEq] at hgs
                obtain ⟨⟨rfl, _⟩, _, rfl⟩ := hgs
                exact ⟨htb, hB.trans (hub.below (by omega) (fun b hb e => by omega)), hfz, by simpa using c2⟩
              have HFIN := Lib.hid hfin; clear hfin
              go_wp2_with (at_mapUpdate; refine wpList_update_map rfl _ _ _ 54 rfl 23 4 key23 Try.underlying54 _ _ rfl hm (d % 40) (.bool true) rfl rfl ?_; intro wb hmb hub; clear hlk2; obtain ⟨htb, hBb, hfz, c2⟩ := HFIN.out wb hub)
              have hzb := hub.size
              clear hm hub ht hB
              have htl := htb.last (d % 40)
              have hul : Upd (fun b => b = g) wb (wb.setCell ⟨g, pre.length * 6 + 2, none⟩ (.int .u64 (d % 40))) := (Upd.refl _ wb).setCell _ (fun _ => rfl)
              obtain ⟨wc, hwc⟩ : ∃ wc, wc = wb.setCell ⟨g, pre.length * 6 + 2, none⟩ (.int .u64 (d % 40)) := ⟨_, rfl⟩
              rw [← hwc] at htl hul
              rw [← hwc]
              have htc := htl
              have hmc := hmb.upd hul (by omega)
              have hBc : Below w2.heap.size w2 wc := hBb.trans (hul.below (by omega) (fun b hb e => by omega))
              have hzc := hul.size
              clear htb hmb hBb htl hul hwc hfz c2
              refine (tuple_at (d % 40) 0 wc).mono ?_
              rintro e wt ⟨rfl, bt⟩
              have htt := htc.same bt
              unfold tup
              go_wp2_with (at_builtin; refine wpList_append_mine rfl (.tmp 61) (.tmp 64) 72 rfl (w2.heap.size + 1) 76 i76 (.agg #[.int .u64 0, .int .u64 0, .int .u64 0, .int .i64 0, .int .i64 0, .slice none 0 0]) 6 64 Try.underlying72 hi76 hz760 hz761 hz762 rfl (by decide) _ _ _ rfl (World.ownsRow.alloc htt _) ⟨wt.heap.size, 0, none⟩ 1 1 (tcells (d % 40, 0)) rfl rfl ?c1 ?c2 ?c3 ?c4 ?c5 ?_)
              case c1 => exact news_block (heap_new1 wt _)
              case c2 => exact tcells_one _
              case c3 => first | decide | (unfold maxLen; simp only [List.length_append, List.length_singleton]; omega)
              case c4 => first | decide | (simp only [List.length_append, List.length_singleton]; omega)
              case c5 => have := bt.size; simp; omega
              intro v' w5 hown' hupd hnew
              have hu5 : Upd (fun b => w2.heap.size + 1 ≤ b) wc w5 := ((Upd.same (bt.alloc bt.size _))).trans (hupd.mono (fun b _ e => (World.ownsRow.lt htt b e).1))
              have hm5 := hmc.upd hu5 (by omega)
              have hB5 : Below w2.heap.size w2 w5 := hBc.trans (hu5.below (by omega) (fun b hb e => by omega))
              have htn : Tups (w2.heap.size + 1) w5 v' (chain (ys ++ [a] ++ [d % 40])) := by rw [HC2.out]; exact Tups.snoc (by simpa using hown')
              go_wp2_with fail
              go_roundw
              case rel => exact ⟨j + 1, ys ++ [a] ++ [d % 40], _, by omega, by go_num, by have := HPN.out; simp; omega, by have := HPN.out; simp; omega, (fun x hx => by rcases List.mem_append.1 hx with hx | hx; exact hx0 x hx; have hx := List.mem_singleton.1 hx; subst hx; exact HZ.out), htn, hm5, hmvn, hB5, by have := hu5.size; omega⟩
              case measure => simp [intOf]; omega
          · rw [hu] at hlk
            have hlk2 : (Instr.lookup 54 (.map (some w2.heap.size)) (.int .u64 (d % 40)) false).run Try.prog wr = .ok (.bool true) wr := hlk
            clear hlk hu hz
            go_wp2_with fail
            go_roundw
            case rel => exact ⟨j + 1, xs, m, by omega, by go_num, by omega, hx12, hx0, by unfold Tups at ht ⊢; simpa [chain_length] using ht, hm, hmv, hB, hzz⟩
            case measure => simp [intOf]; omega
      · have hj12 : ¬ (j : Int) < 12 := by omega
        go_wp2_with fail
        go_roundw
        case rel => exact ⟨j + 1, xs, m, by omega, by go_num, by omega, hx12, hx0, by unfold Tups at ht ⊢; simpa [chain_length] using ht, hm, hmv, hB, hzz⟩
        case measure => simp [intOf]; omega
    · have hjl : ¬ (j : Int) < n2 := by omega
      have hPz := hP.same hB
      have z0 : wr.cell? ⟨pb, 0, none⟩ = some (.pointer (some ⟨pl, 0, none⟩)) := keeper hB k0
      have z2 := keeper hB k2
      have hsz := hPz.s
      have hlz := hPz.l
      clear hPz hP hss k0 k2 hm hmv
      go_wp2_with fail
      obtain ⟨wz, hwz⟩ : ∃ wz, wz = wr := ⟨_, rfl⟩
      subst hwz
      clear z2
      go_loopw [72] (fun i wv => ∃ k : Nat, k ≤ S.length ∧ i = .int .i64 k ∧ Below wz.heap.size wz wv) (fun i _ => S.length - (intOf i).toNat)
      case atStart => exact ⟨0, Nat.zero_le _, rfl, Below.refl _ _⟩
      case round =>
        obtain ⟨k, hk, rfl, hBz⟩ := hrel
        obtain ⟨wy, hwy⟩ : ∃ wy, wy = wr := ⟨_, rfl⟩
        subst hwy
        by_cases hkl : k < S.length
        · obtain ⟨g, cp, hg, c0, c1, c2, ⟨ra, rc, c3, hrv⟩, hrun, _⟩ := (hsz.same hBz).at (i := k) (by rw [hsl]; exact hkl)
          simp only [hsl, Value.slice.injEq] at hg
          obtain ⟨rfl, _, rfl⟩ := hg
          have hsn : (S.map fun z => (z.1, z.2.1))[k]'(by rw [hsl]; exact hkl) = (S[k].1, S[k].2.1) := by simp
          rw [hsn] at c0 c1 c2 c3 hrv hrun
          obtain ⟨s, hs⟩ : ∃ s, s = S[k].1 := ⟨_, rfl⟩
          obtain ⟨rv, hrv'⟩ : ∃ rv, rv = S[k].2.1 := ⟨_, rfl⟩
          simp only [← hs, ← hrv'] at c0 c1 c2 c3 hrv hrun
          clear hs hrv' hsn
          subst hrv
          go_wp2_with fail
          obtain ⟨wo, hwo⟩ : ∃ wo, wo = wy.alloc (.cells #[.int .u64 s.own, .int .u64 s.xmin, .int .u64 s.xmax, .slice ra s.run.length rc] 66) := ⟨_, rfl⟩
          have q0 : wo.cell? ⟨wy.heap.size, 0, none⟩ = some (.int .u64 s.own) := by rw [hwo]; exact cell_of_block (heap_new1 wy _) rfl
          have q1 : wo.cell? ⟨wy.heap.size, 1, none⟩ = some (.int .u64 s.xmin) := by rw [hwo]; exact cell_of_block (heap_new1 wy _) rfl
          have q2 : wo.cell? ⟨wy.heap.size, 2, none⟩ = some (.int .u64 s.xmax) := by rw [hwo]; exact cell_of_block (heap_new1 wy _) rfl
          have q3 : wo.cell? ⟨wy.heap.size, 3, none⟩ = some (.slice ra s.run.length rc) := by rw [hwo]; exact cell_of_block (heap_new1 wy _) rfl
          have hal : Below wy.heap.size wy wo := by rw [hwo]; exact (Below.refl _ _).alloc (Nat.le_refl _) _
          have hBzo := hBz.trans (hal.mono hBz.size)
          have hlo := hlz.same hBzo
          have hro := hrun.same hal
          have z0o := keeper hBzo z0
          have hto := ht.same hBzo
          rw [← hwo]
          have HSE := Lib.hid (show ∀ w', Below wo.heap.size wo w' → ∀ x, Calls Try.prog 33 #[.pointer (some ⟨pl, 0, none⟩), .agg #[.int .u64 s.own, .int .u64 s.xmin, .int .u64 s.xmax, .slice ra s.run.length rc], .int .u64 x] w' fun e w'' => e = .returned (.bool (sees 1 L s x)) ∧ Below w'.heap.size w' w'' from fun w' hb x => sees_at (hlo.same hb) (hro.same hb) x)
          have HVS := Lib.hid (show ∀ w', Below wo.heap.size wo w' → ∀ x y, Calls Try.prog 35 #[.pointer (some ⟨pl, 0, none⟩), .agg #[.int .u64 s.own, .int .u64 s.xmin, .int .u64 s.xmax, .slice ra s.run.length rc], .agg #[.int .u64 0, .int .u64 x, .int .u64 y, .int .i64 0, .int .i64 0, .slice none 0 0]] w' fun e w'' => e = .returned (.bool (vis 1 L s x y)) ∧ Below w'.heap.size w' w'' from fun w' hb x y => vis_at (hlo.same hb) (hro.same hb) x y)
          have hrl := hro.2
          clear hal hwo hrun c0 c1 c2 c3 hBz hlo hro
          go_loopw [15, 78] (fun nv i wv => ∃ (q : Nat) (n : Int), q ≤ xs.length ∧ i = .int .i64 q ∧ nv = .int .i64 n ∧ One xs.length q (fun q => sees 1 L s (xs.getD q 0)) n ∧ Below wo.heap.size wo wv) (fun _ i _ => xs.length - (intOf i).toNat)
          case atStart => exact ⟨0, 0, Nat.zero_le _, rfl, rfl, One.start _ _, Below.refl _ _⟩
          case round =>
            obtain ⟨q, n, hq, rfl, rfl, hone, hBo⟩ := hrel
            by_cases hql : q < xs.length
            · have hcl : q < (chain xs).length := by rw [chain_length]; exact hql
              obtain ⟨gt, ct, hgt, _, _, e0, e1, e2, e3, e4, e5⟩ := (hto.same hBo).at hcl
              have hce : (chain xs)[q] = (xs[q], xs.getD (q + 1) 0) := Option.some.inj ((List.getElem?_eq_getElem hcl).symm.trans (chain_at xs q hql))
              rw [hce] at e1 e2
              rw [chain_length] at hgt
              simp only [Value.slice.injEq] at hgt
              obtain ⟨rfl, _, rfl⟩ := hgt
              have hsq : sees 1 L s (xs.getD q 0) = sees 1 L s xs[q] := by rw [getD_at hql]
              have hbz : xs.getD (q + 1) 0 = 0 ↔ xs.length ≤ q + 1 := by
                by_cases h : q + 1 < xs.length
                · rw [getD_at h]
                  exact ⟨fun e => absurd e (hx0 _ (List.getElem_mem h)), fun e => by omega⟩
                · rw [List.getD_eq_getElem?_getD, List.getElem?_eq_none (by omega)]
                  exact ⟨fun _ => by omega, fun _ => rfl⟩
              have hpre : 0 < q → ∃ a', wr.cell? ⟨gt, (q - 1) * 6 + 1, none⟩ = some (.int .u64 a') ∧ sees 1 L s (xs.getD (q - 1) 0) = sees 1 L s a' := fun h0 => by
                have hcl' : q - 1 < (chain xs).length := by rw [chain_length]; omega
                obtain ⟨gt', ct', hgt', _, _, _, f1, _⟩ := (hto.same hBo).at hcl'
                rw [chain_length] at hgt'
                simp only [Value.slice.injEq, Option.some.injEq, Addr.mk.injEq] at hgt'
                obtain ⟨⟨rfl, _⟩, _, rfl⟩ := hgt'
                have hce' : (chain xs)[q - 1] = (xs[q - 1]'(by omega), xs.getD (q - 1 + 1) 0) := Option.some.inj ((List.getElem?_eq_getElem hcl').symm.trans (chain_at xs (q - 1) (by omega)))
                rw [hce'] at f1
                exact ⟨_, f1, by rw [getD_at (show q - 1 < xs.length by omega)]⟩
              have hvis : vis 1 L s xs[q] (xs.getD (q + 1) 0) = (sees 1 L s (xs.getD q 0) && (decide (xs.length ≤ q + 1) || !sees 1 L s (xs.getD (q + 1) 0))) := by
                unfold vis
                rw [hsq]
                have : (xs.getD (q + 1) 0 == 0) = decide (xs.length ≤ q + 1) := by rw [Bool.eq_iff_iff, beq_iff_eq, decide_eq_true_eq]; exact hbz
                rw [this]
              obtain ⟨a, haq⟩ : ∃ a, a = xs[q] := ⟨_, rfl⟩
              obtain ⟨b', hbq⟩ : ∃ b', b' = xs.getD (q + 1) 0 := ⟨_, rfl⟩
              rw [← haq] at hsq hvis e1
              rw [← hbq] at e2
              obtain ⟨see, hsee⟩ : ∃ see : Nat → Bool, see = fun q => sees 1 L s (xs.getD q 0) := ⟨_, rfl⟩
              have hsa : sees 1 L s a = see q := by rw [hsee]; exact hsq.symm
              have hvb : vis 1 L s a b' = (see q && (decide (xs.length ≤ q + 1) || !see (q + 1))) := by rw [hbq, hvis, hsee]
              have hpre' : 0 < q → ∃ a', wr.cell? ⟨gt, (q - 1) * 6 + 1, none⟩ = some (.int .u64 a') ∧ sees 1 L s a' = see (q - 1) := fun h0 => by
                obtain ⟨a', h1, h2⟩ := hpre h0
                exact ⟨a', h1, by rw [hsee]; exact h2.symm⟩
              rw [← hsee] at hone
              have HSEE := Lib.hid hsee; clear hsee hpre hvis hsq hbz hce haq hbq
              -- what the two calls answer
              obtain ⟨vb, hvb2⟩ : ∃ vb, vb = vis 1 L s a b' := ⟨_, rfl⟩
              rw [← hvb2] at hvb
              have HVI := Lib.hid (show ∀ w', Below wo.heap.size wo w' → Calls Try.prog 35 #[.pointer (some ⟨pl, 0, none⟩), .agg #[.int .u64 s.own, .int .u64 s.xmin, .int .u64 s.xmax, .slice ra s.run.length rc], .agg #[.int .u64 0, .int .u64 a, .int .u64 b', .int .i64 0, .int .i64 0, .slice none 0 0]] w' fun e w'' => e = .returned (.bool vb) ∧ Below w'.heap.size w' w'' from fun w' hb => by rw [hvb2]; exact HVS.out w' hb a b')
              have HVB := Lib.hid hvb; clear hvb hvb2
              have p0' := keeper hBo z0o
              have s0' := keeper hBo q0
              have s1' := keeper hBo q1
              have s2' := keeper hBo q2
              have s3' := keeper hBo q3
              have hn100 := hone.1
              have hnle : n ≤ 1 := hone.fine (by omega)
              go_wp2_with fail
              obtain ⟨wp, hwp⟩ : ∃ wp, wp = wr.alloc (.cells #[.int .u64 0, .int .u64 a, .int .u64 b', .int .i64 0, .int .i64 0, .slice none 0 0] 76) := ⟨_, rfl⟩
              have t0 : wp.cell? ⟨wr.heap.size, 0, none⟩ = some (.int .u64 0) := by rw [hwp]; exact cell_of_block (heap_new1 wr _) rfl
              have t1 : wp.cell? ⟨wr.heap.size, 1, none⟩ = some (.int .u64 a) := by rw [hwp]; exact cell_of_block (heap_new1 wr _) rfl
              have t2 : wp.cell? ⟨wr.heap.size, 2, none⟩ = some (.int .u64 b') := by rw [hwp]; exact cell_of_block (heap_new1 wr _) rfl
              have t3 : wp.cell? ⟨wr.heap.size, 3, none⟩ = some (.int .i64 0) := by rw [hwp]; exact cell_of_block (heap_new1 wr _) rfl
              have t4 : wp.cell? ⟨wr.heap.size, 4, none⟩ = some (.int .i64 0) := by rw [hwp]; exact cell_of_block (heap_new1 wr _) rfl
              have t5 : wp.cell? ⟨wr.heap.size, 5, none⟩ = some (.slice none 0 0) := by rw [hwp]; exact cell_of_block (heap_new1 wr _) rfl
              have hB0 : Below wr.heap.size wr wp := by rw [hwp]; exact (Below.refl _ _).alloc (Nat.le_refl _) _
              rw [← hwp]
              clear hwp e0 e1 e2 e3 e4 e5
              have p0 := keeper hB0 p0'
              have s0 := keeper hB0 s0'
              have s1 := keeper hB0 s1'
              have s2 := keeper hB0 s2'
              have s3 := keeper hB0 s3'
              have hBop : Below wo.heap.size wo wp := hBo.trans (hB0.mono hBo.size)
              clear p0' s0' s1' s2' s3'
              by_cases h0 : q = 0
              · subst h0
                have hR : Hid (One xs.length (0 + 1) see (if vb then n + 1 else n)) := hone.step (fun h => absurd h (by omega)) hql HVB.out
                clear hone hpre'
                go_quiet (fail)
                obtain ⟨wk, hwk⟩ : ∃ wk, wk = wp.drewN nq := ⟨_, rfl⟩
                have hBk : Below wp.heap.size wp wk := by rw [hwk]; exact below_drewN
                rw [← hwk]
                clear hwk
                have kp0 := keeper hBk p0
                have ks0 := keeper hBk s0
                have ks1 := keeper hBk s1
                have ks2 := keeper hBk s2
                have ks3 := keeper hBk s3
                have kt0 := keeper hBk t0
                have kt1 := keeper hBk t1
                have kt2 := keeper hBk t2
                have kt3 := keeper hBk t3
                have kt4 := keeper hBk t4
                have kt5 := keeper hBk t5
                clear p0 s0 s1 s2 s3 t0 t1 t2 t3 t4 t5
                cases vb
                all_goals
                  go_wp2_with fail
                  have hBd : Below wk.heap.size wk wk.drew := below_drewN (n := 1)
                  have hBx := hBop.trans ((hBk.trans (hBd.mono hBk.size)).mono hBop.size)
                  go_region_held3 (fun z => z.cell? ⟨pb, 0, none⟩ = some (.pointer (some ⟨pl, 0, none⟩)) ∧ z.cell? ⟨wy.heap.size, 0, none⟩ = some (.int .u64 s.own) ∧ z.cell? ⟨wy.heap.size, 1, none⟩ = some (.int .u64 s.xmin) ∧ z.cell? ⟨wy.heap.size, 2, none⟩ = some (.int .u64 s.xmax) ∧ z.cell? ⟨wy.heap.size, 3, none⟩ = some (.slice ra s.run.length rc) ∧ z.cell? ⟨wr.heap.size, 0, none⟩ = some (.int .u64 0) ∧ z.cell? ⟨wr.heap.size, 1, none⟩ = some (.int .u64 a) ∧ z.cell? ⟨wr.heap.size, 2, none⟩ = some (.int .u64 b') ∧ z.cell? ⟨wr.heap.size, 3, none⟩ = some (.int .i64 0) ∧ z.cell? ⟨wr.heap.size, 4, none⟩ = some (.int .i64 0) ∧ z.cell? ⟨wr.heap.size, 5, none⟩ = some (.slice none 0 0))
                    (first | exact ⟨keeper hBv2 kp0, keeper hBv2 ks0, keeper hBv2 ks1, keeper hBv2 ks2, keeper hBv2 ks3, keeper hBv2 kt0, keeper hBv2 kt1, keeper hBv2 kt2, keeper hBv2 kt3, keeper hBv2 kt4, keeper hBv2 kt5⟩ | exact ⟨keeper hBd kp0, keeper hBd ks0, keeper hBd ks1, keeper hBd ks2, keeper hBd ks3, keeper hBd kt0, keeper hBd kt1, keeper hBd kt2, keeper hBd kt3, keeper hBd kt4, keeper hBd kt5⟩)
                    (first | (go_at_call 35; (with_reducible refine (HVI.out _ hBx).mono ?_); rintro e wv ⟨rfl, hBv⟩; have hBv2 := below_drew hBv))
                  go_wp2_with fail
                  go_roundw
                  case rel => exact ⟨0 + 1, _, by omega, by go_num, rfl, (by have := hR.out; rw [HSEE.out] at this; simpa using this), hBop.trans ((hBk.trans (hBv2.mono hBk.size)).mono hBop.size)⟩
                  case measure => simp [intOf]; omega
              · obtain ⟨a', y1', hsb⟩ := hpre' (by omega)
                have y1 := keeper hB0 y1'
                have hg : decide ((0 : Int) < (q : Int)) = true := by simp; omega
                have hgN : 0 < q := by omega
                have hgB : decide (0 < q) = true := by simp; omega
                have hq1 : ((q : Int) - 1).toNat = q - 1 := by omega
                have hq2 : (1 : Int) ≤ (q : Int) := by omega
                have hq3 : (q : Int) - 1 < xs.length := by omega
                have hq4 : wrap64 ((q : Int) - 1) = (q : Int) - 1 := IntWalk.wrap64_in _ (by omega)
                have hq5 : IntKind.i64.wrap ((q : Int) - 1) = (q : Int) - 1 := by rw [IntKind.wrap_i64]; omega
                clear h0 hpre' y1'
                have hsa1 : ∀ w', Below wo.heap.size wo w' → Calls Try.prog 33 #[.pointer (some ⟨pl, 0, none⟩), .agg #[.int .u64 s.own, .int .u64 s.xmin, .int .u64 s.xmax, .slice ra s.run.length rc], .int .u64 a] w' fun e w'' => e = .returned (.bool (see q)) ∧ Below w'.heap.size w' w'' := fun w' hb => by rw [← hsa]; exact HSE.out w' hb a
                have hsb1 : ∀ w', Below wo.heap.size wo w' → Calls Try.prog 33 #[.pointer (some ⟨pl, 0, none⟩), .agg #[.int .u64 s.own, .int .u64 s.xmin, .int .u64 s.xmax, .slice ra s.run.length rc], .int .u64 a'] w' fun e w'' => e = .returned (.bool (see (q - 1))) ∧ Below w'.heap.size w' w'' := fun w' hb => by rw [← hsb]; exact HSE.out w' hb a'
                clear hsa hsb
                cases hs1 : see q with
                | false =>
                  have hR : Hid (One xs.length (q + 1) see (if vb then n + 1 else n)) := hone.step (fun _ h => absurd h (by rw [hs1]; decide)) hql HVB.out
                  rw [hs1] at hsa1
                  have HSA := Lib.hid hsa1
                  clear hsa1 hsb1 hone hs1
                  have hBd0 : Below wp.heap.size wp wp.drew := below_drewN (n := 1)
                  have hBx0 := hBop.trans (hBd0.mono hBop.size)
                  refine wp_region_noPanic ?_
                  refine wp_region_held_drew (S := (fun z => z.cell? ⟨pb, 0, none⟩ = some (.pointer (some ⟨pl, 0, none⟩)) ∧ z.cell? ⟨wy.heap.size, 0, none⟩ = some (.int .u64 s.own) ∧ z.cell? ⟨wy.heap.size, 1, none⟩ = some (.int .u64 s.xmin) ∧ z.cell? ⟨wy.heap.size, 2, none⟩ = some (.int .u64 s.xmax) ∧ z.cell? ⟨wy.heap.size, 3, none⟩ = some (.slice ra s.run.length rc) ∧ z.cell? ⟨wr.heap.size, 1, none⟩ = some (.int .u64 a) ∧ z.cell? ⟨gt, (q - 1) * 6 + 1, none⟩ = some (.int .u64 a'))) (by kernel_rfl) (⟨keeper hBd0 p0, keeper hBd0 s0, keeper hBd0 s1, keeper hBd0 s2, keeper hBd0 s3, keeper hBd0 t1, keeper hBd0 y1⟩) (fun hH => ?_)
                  refine wpAnyH_take (i := 0) (oi := _) (v := ?_) rfl (by kernel_rfl) (by kernel_rfl) (by kernel_rfl) (fun _ _ _ h => h) (Or.inl ⟨by rfl, ?_⟩) hH ?_
                  rotate_left 1
                  · intro w0 _; go_simp; try with_reducible rfl
                  try simp only [Act.put, List.getElem_toArray, List.getElem_cons_zero, List.setIfInBounds_toArray, List.set_cons_zero, List.set_cons_succ]
                  refine wpAnyH_take (i := 1) (oi := _) (v := ?_) rfl (by kernel_rfl) (by kernel_rfl) (by kernel_rfl) (fun _ _ _ h => h) (Or.inl ⟨by rfl, ?_⟩) hH ?_
                  rotate_left 1
                  · intro w0 _; go_simp; try with_reducible rfl
                  try simp only [Act.put, List.getElem_toArray, List.getElem_cons_zero, List.getElem_cons_succ, List.setIfInBounds_toArray, List.set_cons_zero, List.set_cons_succ]
                  refine wpAnyH_take (i := 2) (oi := _) (v := ?_) rfl (by kernel_rfl) (by kernel_rfl) (by kernel_rfl) (fun _ _ _ h => h) (Or.inl ⟨by rfl, ?_⟩) hH ?_
                  rotate_left 1
                  · intro w0 _; go_simp; try with_reducible rfl
                  try simp only [Act.put, List.getElem_toArray, List.getElem_cons_zero, List.getElem_cons_succ, List.setIfInBounds_toArray, List.set_cons_zero, List.set_cons_succ]
                  refine wpAnyH_take (i := 3) (oi := _) (v := ?_) rfl (by kernel_rfl) (by kernel_rfl) (by kernel_rfl) (fun _ _ _ h => h) (Or.inl ⟨by rfl, ?_⟩) hH ?_
                  rotate_left 1
                  · intro w0 _; go_simp; try with_reducible rfl
                  try simp only [Act.put, List.getElem_toArray, List.getElem_cons_zero, List.getElem_cons_succ, List.setIfInBounds_toArray, List.set_cons_zero, List.set_cons_succ]
                  refine wpAnyH_take (i := 4) (oi := _) (v := ?_) rfl (by kernel_rfl) (by kernel_rfl) (by kernel_rfl) (fun _ _ _ h => h) (Or.inl ⟨by rfl, ?_⟩) hH ?_
                  rotate_left 1
                  · intro w0 _; go_simp; try with_reducible rfl
                  try simp only [Act.put, List.getElem_toArray, List.getElem_cons_zero, List.getElem_cons_succ, List.setIfInBounds_toArray, List.set_cons_zero, List.set_cons_succ]
                  refine wpAnyH_take (i := 5) (oi := _) (v := ?_) rfl (by kernel_rfl) (by kernel_rfl) (by kernel_rfl) (fun _ _ _ h => h) (Or.inl ⟨by rfl, ?_⟩) hH ?_
                  rotate_left 1
                  · intro w0 _; go_simp; try with_reducible rfl
                  try simp only [Act.put, List.getElem_toArray, List.getElem_cons_zero, List.getElem_cons_succ, List.setIfInBounds_toArray, List.set_cons_zero, List.set_cons_succ]
                  refine wpAnyH_take (i := 6) (oi := _) (v := ?_) rfl (by kernel_rfl) (by kernel_rfl) (by kernel_rfl) (fun _ _ _ h => h) (Or.inl ⟨by rfl, ?_⟩) hH ?_
                  rotate_left 1
                  · intro w0 hSw; (try dsimp only at hSw); go_simp; try with_reducible rfl
                  try simp only [Act.put, List.getElem_toArray, List.getElem_cons_zero, List.getElem_cons_succ, List.setIfInBounds_toArray, List.set_cons_zero, List.set_cons_succ]
                  refine wpAnyH_take (i := 7) (oi := _) (v := ?_) rfl (by kernel_rfl) (by kernel_rfl) (by kernel_rfl) (fun _ _ _ h => h) (Or.inl ⟨by rfl, ?_⟩) hH ?_
                  rotate_left 1
                  · intro w0 hSw; (try dsimp only at hSw); go_simp; try with_reducible rfl
                  try simp only [Act.put, List.getElem_toArray, List.getElem_cons_zero, List.getElem_cons_succ, List.setIfInBounds_toArray, List.set_cons_zero, List.set_cons_succ]
                  refine wpAnyH_take (i := 8) (oi := _) (v := ?_) rfl (by kernel_rfl) (by kernel_rfl) (by kernel_rfl) (fun _ _ _ h => h) (Or.inl ⟨by rfl, ?_⟩) hH ?_
                  rotate_left 1
                  · intro w0 _; go_simp; try with_reducible rfl
                  try simp only [Act.put, List.getElem_toArray, List.getElem_cons_zero, List.getElem_cons_succ, List.setIfInBounds_toArray, List.set_cons_zero, List.set_cons_succ]
                  refine wpAnyH_take (i := 9) (oi := _) (v := ?_) rfl (by kernel_rfl) (by kernel_rfl) (by kernel_rfl) (fun _ _ _ h => h) (Or.inl ⟨by rfl, ?_⟩) hH ?_
                  rotate_left 1
                  · intro w0 hSw; (try dsimp only at hSw); go_simp; try with_reducible rfl
                  try simp only [Act.put, List.getElem_toArray, List.getElem_cons_zero, List.getElem_cons_succ, List.setIfInBounds_toArray, List.set_cons_zero, List.set_cons_succ]
                  refine wpAnyH_ready (rs := [10]) (by kernel_rfl) (by simp) ?_
                  refine AllReadyH.cons rfl (fun K hK => ?_) AllReadyH.nil
                  go_simp
                  go_at_call 33; (with_reducible refine (HSA.out _ hBx0).mono ?_); rintro e wt ⟨rfl, hBt⟩; have hB1 := below_drew hBt
                  go_wp2_with fail
                  refine hK.out _ _ ?_ (fun hH2 => ?_)
                  · exact ⟨keeper hB1 p0, keeper hB1 s0, keeper hB1 s1, keeper hB1 s2, keeper hB1 s3, keeper hB1 t1, keeper hB1 y1⟩
                  clear hK K hH
                  have hH := hH2
                  clear hH2
                  try simp only [Act.put, List.getElem_toArray, List.getElem_cons_zero, List.getElem_cons_succ, List.setIfInBounds_toArray, List.set_cons_zero, List.set_cons_succ]
                  refine wpAnyH_take (i := 11) (oi := _) (v := ?_) rfl (by kernel_rfl) (by kernel_rfl) (by kernel_rfl) (fun _ _ _ h => h) (Or.inl ⟨by rfl, ?_⟩) hH ?_
                  rotate_left 1
                  · intro w0 _; go_simp; try with_reducible rfl
                  try simp only [Act.put, List.getElem_toArray, List.getElem_cons_zero, List.getElem_cons_succ, List.setIfInBounds_toArray, List.set_cons_zero, List.set_cons_succ]
                  refine wpAnyH_take (i := 12) (oi := _) (v := ?_) rfl (by kernel_rfl) (by kernel_rfl) (by kernel_rfl) (fun _ _ _ h => h) (Or.inl ⟨by rfl, ?_⟩) hH ?_
                  rotate_left 1
                  · intro w0 _; go_simp; try with_reducible rfl
                  try simp only [Act.put, List.getElem_toArray, List.getElem_cons_zero, List.getElem_cons_succ, List.setIfInBounds_toArray, List.set_cons_zero, List.set_cons_succ]
                  refine wpAnyH_take (i := 13) (oi := _) (v := undef) rfl (by kernel_rfl) (by kernel_rfl) (by kernel_rfl) (fun _ _ _ h => h) (Or.inr ⟨by rfl, rfl⟩) hH ?_
                  try simp only [Act.put, List.getElem_toArray, List.getElem_cons_zero, List.getElem_cons_succ, List.setIfInBounds_toArray, List.set_cons_zero, List.set_cons_succ]
                  refine wpAnyH_take (i := 14) (oi := _) (v := undef) rfl (by kernel_rfl) (by kernel_rfl) (by kernel_rfl) (fun _ _ _ h => h) (Or.inr ⟨by rfl, rfl⟩) hH ?_
                  try simp only [Act.put, List.getElem_toArray, List.getElem_cons_zero, List.getElem_cons_succ, List.setIfInBounds_toArray, List.set_cons_zero, List.set_cons_succ]
                  refine wpAnyH_take (i := 15) (oi := _) (v := undef) rfl (by kernel_rfl) (by kernel_rfl) (by kernel_rfl) (fun _ _ _ h => h) (Or.inr ⟨by rfl, rfl⟩) hH ?_
                  try simp only [Act.put, List.getElem_toArray, List.getElem_cons_zero, List.getElem_cons_succ, List.setIfInBounds_toArray, List.set_cons_zero, List.set_cons_succ]
                  refine wpAnyH_take (i := 16) (oi := _) (v := undef) rfl (by kernel_rfl) (by kernel_rfl) (by kernel_rfl) (fun _ _ _ h => h) (Or.inr ⟨by rfl, rfl⟩) hH ?_
                  try simp only [Act.put, List.getElem_toArray, List.getElem_cons_zero, List.getElem_cons_succ, List.setIfInBounds_toArray, List.set_cons_zero, List.set_cons_succ]
                  refine wpAnyH_take (i := 17) (oi := _) (v := undef) rfl (by kernel_rfl) (by kernel_rfl) (by kernel_rfl) (fun _ _ _ h => h) (Or.inr ⟨by rfl, rfl⟩) hH ?_
                  try simp only [Act.put, List.getElem_toArray, List.getElem_cons_zero, List.getElem_cons_succ, List.setIfInBounds_toArray, List.set_cons_zero, List.set_cons_succ]
                  refine wpAnyH_take (i := 18) (oi := _) (v := undef) rfl (by kernel_rfl) (by kernel_rfl) (by kernel_rfl) (fun _ _ _ h => h) (Or.inr ⟨by rfl, rfl⟩) hH ?_
                  try simp only [Act.put, List.getElem_toArray, List.getElem_cons_zero, List.getElem_cons_succ, List.setIfInBounds_toArray, List.set_cons_zero, List.set_cons_succ]
                  refine wpAnyH_take (i := 19) (oi := _) (v := undef) rfl (by kernel_rfl) (by kernel_rfl) (by kernel_rfl) (fun _ _ _ h => h) (Or.inr ⟨by rfl, rfl⟩) hH ?_
                  try simp only [Act.put, List.getElem_toArray, List.getElem_cons_zero, List.getElem_cons_succ, List.setIfInBounds_toArray, List.set_cons_zero, List.set_cons_succ]
                  refine wpAnyH_take (i := 20) (oi := _) (v := undef) rfl (by kernel_rfl) (by kernel_rfl) (by kernel_rfl) (fun _ _ _ h => h) (Or.inr ⟨by rfl, rfl⟩) hH ?_
                  try simp only [Act.put, List.getElem_toArray, List.getElem_cons_zero, List.getElem_cons_succ, List.setIfInBounds_toArray, List.set_cons_zero, List.set_cons_succ]
                  refine wpAnyH_take (i := 21) (oi := _) (v := undef) rfl (by kernel_rfl) (by kernel_rfl) (by kernel_rfl) (fun _ _ _ h => h) (Or.inr ⟨by rfl, rfl⟩) hH ?_
                  try simp only [Act.put, List.getElem_toArray, List.getElem_cons_zero, List.getElem_cons_succ, List.setIfInBounds_toArray, List.set_cons_zero, List.set_cons_succ]
                  refine wpAnyH_take (i := 22) (oi := _) (v := undef) rfl (by kernel_rfl) (by kernel_rfl) (by kernel_rfl) (fun _ _ _ h => h) (Or.inr ⟨by rfl, rfl⟩) hH ?_
                  try simp only [Act.put, List.getElem_toArray, List.getElem_cons_zero, List.getElem_cons_succ, List.setIfInBounds_toArray, List.set_cons_zero, List.set_cons_succ]
                  refine wpAnyH_take (i := 23) (oi := _) (v := undef) rfl (by kernel_rfl) (by kernel_rfl) (by kernel_rfl) (fun _ _ _ h => h) (Or.inr ⟨by rfl, rfl⟩) hH ?_
                  try simp only [Act.put, List.getElem_toArray, List.getElem_cons_zero, List.getElem_cons_succ, List.setIfInBounds_toArray, List.set_cons_zero, List.set_cons_succ]
                  refine wpAnyH_take (i := 24) (oi := _) (v := undef) rfl (by kernel_rfl) (by kernel_rfl) (by kernel_rfl) (fun _ _ _ h => h) (Or.inr ⟨by rfl, rfl⟩) hH ?_
                  try simp only [Act.put, List.getElem_toArray, List.getElem_cons_zero, List.getElem_cons_succ, List.setIfInBounds_toArray, List.set_cons_zero, List.set_cons_succ]
                  refine wpAnyH_take (i := 25) (oi := _) (v := undef) rfl (by kernel_rfl) (by kernel_rfl) (by kernel_rfl) (fun _ _ _ h => h) (Or.inr ⟨by rfl, rfl⟩) hH ?_
                  try simp only [Act.put, List.getElem_toArray, List.getElem_cons_zero, List.getElem_cons_succ, List.setIfInBounds_toArray, List.set_cons_zero, List.set_cons_succ]
                  refine wpAnyH_take (i := 26) (oi := _) (v := ?_) rfl (by kernel_rfl) (by kernel_rfl) (by kernel_rfl) (fun _ _ _ h => h) (Or.inl ⟨by rfl, ?_⟩) hH ?_
                  rotate_left 1
                  · intro w0 _; go_simp; try with_reducible rfl
                  try simp only [Act.put, List.getElem_toArray, List.getElem_cons_zero, List.getElem_cons_succ, List.setIfInBounds_toArray, List.set_cons_zero, List.set_cons_succ]
                  refine wpAnyH_done (by kernel_rfl) ?_ _
                  refine NoPanic.normal ?_
                  clear hH
                  obtain ⟨wk, hwk⟩ : ∃ wk, wk = wt := ⟨_, rfl⟩
                  have hBk : Below wp.heap.size wp wk := by rw [hwk]; exact hB1
                  rw [← hwk]
                  clear hwk
                  have kp0 := keeper hBk p0
                  have ks0 := keeper hBk s0
                  have ks1 := keeper hBk s1
                  have ks2 := keeper hBk s2
                  have ks3 := keeper hBk s3
                  have kt0 := keeper hBk t0
                  have kt1 := keeper hBk t1
                  have kt2 := keeper hBk t2
                  have kt3 := keeper hBk t3
                  have kt4 := keeper hBk t4
                  have kt5 := keeper hBk t5
                  clear p0 s0 s1 s2 s3 t0 t1 t2 t3 t4 t5
                  cases vb
                  all_goals
                    go_wp2_with fail
                    have hBd : Below wk.heap.size wk wk.drew := below_drewN (n := 1)
                    have hBx := hBop.trans ((hBk.trans (hBd.mono hBk.size)).mono hBop.size)
                    go_region_held3 (fun z => z.cell? ⟨pb, 0, none⟩ = some (.pointer (some ⟨pl, 0, none⟩)) ∧ z.cell? ⟨wy.heap.size, 0, none⟩ = some (.int .u64 s.own) ∧ z.cell? ⟨wy.heap.size, 1, none⟩ = some (.int .u64 s.xmin) ∧ z.cell? ⟨wy.heap.size, 2, none⟩ = some (.int .u64 s.xmax) ∧ z.cell? ⟨wy.heap.size, 3, none⟩ = some (.slice ra s.run.length rc) ∧ z.cell? ⟨wr.heap.size, 0, none⟩ = some (.int .u64 0) ∧ z.cell? ⟨wr.heap.size, 1, none⟩ = some (.int .u64 a) ∧ z.cell? ⟨wr.heap.size, 2, none⟩ = some (.int .u64 b') ∧ z.cell? ⟨wr.heap.size, 3, none⟩ = some (.int .i64 0) ∧ z.cell? ⟨wr.heap.size, 4, none⟩ = some (.int .i64 0) ∧ z.cell? ⟨wr.heap.size, 5, none⟩ = some (.slice none 0 0))
                      (first | exact ⟨keeper hBv2 kp0, keeper hBv2 ks0, keeper hBv2 ks1, keeper hBv2 ks2, keeper hBv2 ks3, keeper hBv2 kt0, keeper hBv2 kt1, keeper hBv2 kt2, keeper hBv2 kt3, keeper hBv2 kt4, keeper hBv2 kt5⟩ | exact ⟨keeper hBd kp0, keeper hBd ks0, keeper hBd ks1, keeper hBd ks2, keeper hBd ks3, keeper hBd kt0, keeper hBd kt1, keeper hBd kt2, keeper hBd kt3, keeper hBd kt4, keeper hBd kt5⟩)
                      (first | (go_at_call 35; (with_reducible refine (HVI.out _ hBx).mono ?_); rintro e wv ⟨rfl, hBv⟩; have hBv2 := below_drew hBv))
                    go_wp2_with fail
                    go_roundw
                    case rel => exact ⟨q + 1, _, by omega, by go_num, rfl, (by have := hR.out; rw [HSEE.out] at this; simpa using this), hBop.trans ((hBk.trans (hBv2.mono hBk.size)).mono hBop.size)⟩
                    case measure => simp [intOf]; omega
                | true =>
                  rw [hs1] at hsa1
                  have HSA := Lib.hid hsa1
                  clear hsa1
                  cases hs2 : see (q - 1) with
                  | false =>
                    have hR : Hid (One xs.length (q + 1) see (if vb then -100 + 1 else -100)) := One.outs vb
                    rw [hs2] at hsb1
                    have HSB := Lib.hid hsb1
                    clear hsb1 hone hs1 hs2
                    have hBd0 : Below wp.heap.size wp wp.drew := below_drewN (n := 1)
                    have hBx0 := hBop.trans (hBd0.mono hBop.size)
                    go_region_held3 (fun z => z.cell? ⟨pb, 0, none⟩ = some (.pointer (some ⟨pl, 0, none⟩)) ∧ z.cell? ⟨wy.heap.size, 0, none⟩ = some (.int .u64 s.own) ∧ z.cell? ⟨wy.heap.size, 1, none⟩ = some (.int .u64 s.xmin) ∧ z.cell? ⟨wy.heap.size, 2, none⟩ = some (.int .u64 s.xmax) ∧ z.cell? ⟨wy.heap.size, 3, none⟩ = some (.slice ra s.run.length rc) ∧ z.cell? ⟨wr.heap.size, 1, none⟩ = some (.int .u64 a) ∧ z.cell? ⟨gt, (q - 1) * 6 + 1, none⟩ = some (.int .u64 a'))
                      (first | exact ⟨keeper hB2 p0, keeper hB2 s0, keeper hB2 s1, keeper hB2 s2, keeper hB2 s3, keeper hB2 t1, keeper hB2 y1⟩ | exact ⟨keeper hB1 p0, keeper hB1 s0, keeper hB1 s1, keeper hB1 s2, keeper hB1 s3, keeper hB1 t1, keeper hB1 y1⟩ | exact ⟨keeper hBd0 p0, keeper hBd0 s0, keeper hBd0 s1, keeper hBd0 s2, keeper hBd0 s3, keeper hBd0 t1, keeper hBd0 y1⟩)
                      (first
                        | (go_at_call 33; (with_reducible refine (HSA.out _ hBx0).mono ?_); rintro e wt ⟨rfl, hBt⟩; have hB1 := below_drew hBt; have hBx1 := hBop.trans (hB1.mono hBop.size))
                        | (go_at_call 33; (with_reducible refine (HSB.out _ hBx1).mono ?_); rintro e wu ⟨rfl, hBu⟩; have hB2 := hB1.trans (hBu.mono hB1.size)))
                    obtain ⟨wk, hwk⟩ : ∃ wk, wk = wu := ⟨_, rfl⟩
                    have hBk : Below wp.heap.size wp wk := by rw [hwk]; exact hB2
                    rw [← hwk]
                    clear hwk
                    have kp0 := keeper hBk p0
                    have ks0 := keeper hBk s0
                    have ks1 := keeper hBk s1
                    have ks2 := keeper hBk s2
                    have ks3 := keeper hBk s3
                    have kt0 := keeper hBk t0
                    have kt1 := keeper hBk t1
                    have kt2 := keeper hBk t2
                    have kt3 := keeper hBk t3
                    have kt4 := keeper hBk t4
                    have kt5 := keeper hBk t5
                    clear p0 s0 s1 s2 s3 t0 t1 t2 t3 t4 t5
                    cases vb
                    all_goals
                      go_wp2_with fail
                      have hBd : Below wk.heap.size wk wk.drew := below_drewN (n := 1)
                      have hBx := hBop.trans ((hBk.trans (hBd.mono hBk.size)).mono hBop.size)
                      go_region_held3 (fun z => z.cell? ⟨pb, 0, none⟩ = some (.pointer (some ⟨pl, 0, none⟩)) ∧ z.cell? ⟨wy.heap.size, 0, none⟩ = some (.int .u64 s.own) ∧ z.cell? ⟨wy.heap.size, 1, none⟩ = some (.int .u64 s.xmin) ∧ z.cell? ⟨wy.heap.size, 2, none⟩ = some (.int .u64 s.xmax) ∧ z.cell? ⟨wy.heap.size, 3, none⟩ = some (.slice ra s.run.length rc) ∧ z.cell? ⟨wr.heap.size, 0, none⟩ = some (.int .u64 0) ∧ z.cell? ⟨wr.heap.size, 1, none⟩ = some (.int .u64 a) ∧ z.cell? ⟨wr.heap.size, 2, none⟩ = some (.int .u64 b') ∧ z.cell? ⟨wr.heap.size, 3, none⟩ = some (.int .i64 0) ∧ z.cell? ⟨wr.heap.size, 4, none⟩ = some (.int .i64 0) ∧ z.cell? ⟨wr.heap.size, 5, none⟩ = some (.slice none 0 0))
                        (first | exact ⟨keeper hBv2 kp0, keeper hBv2 ks0, keeper hBv2 ks1, keeper hBv2 ks2, keeper hBv2 ks3, keeper hBv2 kt0, keeper hBv2 kt1, keeper hBv2 kt2, keeper hBv2 kt3, keeper hBv2 kt4, keeper hBv2 kt5⟩ | exact ⟨keeper hBd kp0, keeper hBd ks0, keeper hBd ks1, keeper hBd ks2, keeper hBd ks3, keeper hBd kt0, keeper hBd kt1, keeper hBd kt2, keeper hBd kt3, keeper hBd kt4, keeper hBd kt5⟩)
                        (first | (go_at_call 35; (with_reducible refine (HVI.out _ hBx).mono ?_); rintro e wv ⟨rfl, hBv⟩; have hBv2 := below_drew hBv))
                      go_wp2_with fail
                      go_roundw
                      case rel => exact ⟨q + 1, _, by omega, by go_num, rfl, (by have := hR.out; rw [HSEE.out] at this; simpa using this), hBop.trans ((hBk.trans (hBv2.mono hBk.size)).mono hBop.size)⟩
                      case measure => simp [intOf]; omega
                  | true =>
                    have hR : Hid (One xs.length (q + 1) see (if vb then n + 1 else n)) := hone.step (fun _ _ => hs2) hql HVB.out
                    rw [hs2] at hsb1
                    have HSB := Lib.hid hsb1
                    clear hsb1 hone hs1 hs2
                    have hBd0 : Below wp.heap.size wp wp.drew := below_drewN (n := 1)
                    have hBx0 := hBop.trans (hBd0.mono hBop.size)
                    go_region_held3 (fun z => z.cell? ⟨pb, 0, none⟩ = some (.pointer (some ⟨pl, 0, none⟩)) ∧ z.cell? ⟨wy.heap.size, 0, none⟩ = some (.int .u64 s.own) ∧ z.cell? ⟨wy.heap.size, 1, none⟩ = some (.int .u64 s.xmin) ∧ z.cell? ⟨wy.heap.size, 2, none⟩ = some (.int .u64 s.xmax) ∧ z.cell? ⟨wy.heap.size, 3, none⟩ = some (.slice ra s.run.length rc) ∧ z.cell? ⟨wr.heap.size, 1, none⟩ = some (.int .u64 a) ∧ z.cell? ⟨gt, (q - 1) * 6 + 1, none⟩ = some (.int .u64 a'))
                      (first | exact ⟨keeper hB2 p0, keeper hB2 s0, keeper hB2 s1, keeper hB2 s2, keeper hB2 s3, keeper hB2 t1, keeper hB2 y1⟩ | exact ⟨keeper hB1 p0, keeper hB1 s0, keeper hB1 s1, keeper hB1 s2, keeper hB1 s3, keeper hB1 t1, keeper hB1 y1⟩ | exact ⟨keeper hBd0 p0, keeper hBd0 s0, keeper hBd0 s1, keeper hBd0 s2, keeper hBd0 s3, keeper hBd0 t1, keeper hBd0 y1⟩)
                      (first
                        | (go_at_call 33; (with_reducible refine (HSA.out _ hBx0).mono ?_); rintro e wt ⟨rfl, hBt⟩; have hB1 := below_drew hBt; have hBx1 := hBop.trans (hB1.mono hBop.size))
                        | (go_at_call 33; (with_reducible refine (HSB.out _ hBx1).mono ?_); rintro e wu ⟨rfl, hBu⟩; have hB2 := hB1.trans (hBu.mono hB1.size)))
                    obtain ⟨wk, hwk⟩ : ∃ wk, wk = wu := ⟨_, rfl⟩
                    have hBk : Below wp.heap.size wp wk := by rw [hwk]; exact hB2
                    rw [← hwk]
                    clear hwk
                    have kp0 := keeper hBk p0
                    have ks0 := keeper hBk s0
                    have ks1 := keeper hBk s1
                    have ks2 := keeper hBk s2
                    have ks3 := keeper hBk s3
                    have kt0 := keeper hBk t0
                    have kt1 := keeper hBk t1
                    have kt2 := keeper hBk t2
                    have kt3 := keeper hBk t3
                    have kt4 := keeper hBk t4
                    have kt5 := keeper hBk t5
                    clear p0 s0 s1 s2 s3 t0 t1 t2 t3 t4 t5
                    cases vb
                    all_goals
                      go_wp2_with fail
                      have hBd : Below wk.heap.size wk wk.drew := below_drewN (n := 1)
                      have hBx := hBop.trans ((hBk.trans (hBd.mono hBk.size)).mono hBop.size)
                      go_region_held3 (fun z => z.cell? ⟨pb, 0, none⟩ = some (.pointer (some ⟨pl, 0, none⟩)) ∧ z.cell? ⟨wy.heap.size, 0, none⟩ = some (.int .u64 s.own) ∧ z.cell? ⟨wy.heap.size, 1, none⟩ = some (.int .u64 s.xmin) ∧ z.cell? ⟨wy.heap.size, 2, none⟩ = some (.int .u64 s.xmax) ∧ z.cell? ⟨wy.heap.size, 3, none⟩ = some (.slice ra s.run.length rc) ∧ z.cell? ⟨wr.heap.size, 0, none⟩ = some (.int .u64 0) ∧ z.cell? ⟨wr.heap.size, 1, none⟩ = some (.int .u64 a) ∧ z.cell? ⟨wr.heap.size, 2, none⟩ = some (.int .u64 b') ∧ z.cell? ⟨wr.heap.size, 3, none⟩ = some (.int .i64 0) ∧ z.cell? ⟨wr.heap.size, 4, none⟩ = some (.int .i64 0) ∧ z.cell? ⟨wr.heap.size, 5, none⟩ = some (.slice none 0 0))
                        (first | exact ⟨keeper hBv2 kp0, keeper hBv2 ks0, keeper hBv2 ks1, keeper hBv2 ks2, keeper hBv2 ks3, keeper hBv2 kt0, keeper hBv2 kt1, keeper hBv2 kt2, keeper hBv2 kt3, keeper hBv2 kt4, keeper hBv2 kt5⟩ | exact ⟨keeper hBd kp0, keeper hBd ks0, keeper hBd ks1, keeper hBd ks2, keeper hBd ks3, keeper hBd kt0, keeper hBd kt1, keeper hBd kt2, keeper hBd kt3, keeper hBd kt4, keeper hBd kt5⟩)
                        (first | (go_at_call 35; (with_reducible refine (HVI.out _ hBx).mono ?_); rintro e wv ⟨rfl, hBv⟩; have hBv2 := below_drew hBv))
                      go_wp2_with fail
                      go_roundw
                      case rel => exact ⟨q + 1, _, by omega, by go_num, rfl, (by have := hR.out; rw [HSEE.out] at this; simpa using this), hBop.trans ((hBk.trans (hBv2.mono hBk.size)).mono hBop.size)⟩
                      case measure => simp [intOf]; omega
            · have hqe : ¬ (q : Int) < xs.length := by omega
              have hqx : q = xs.length := by omega
              have hfin := hone.fine (by omega)
              have hfin2 : decide ((1 : Int) < n) = false := by simp; omega
              clear hqx
              go_wp2_with fail
              go_roundw
              case rel => exact ⟨k + 1, by omega, by go_num, hBzo.trans (hBo.mono hBzo.size)⟩
              case measure => simp [intOf]; omega
        · have hke : ¬ (k : Int) < S.length := by omega
          go_wp2_with fail
          go_ret
          exact ⟨rfl, hBw.trans (hBz.mono hBw.size)⟩
end Go.Proofs.Ytdohkjpapmkhjaa
