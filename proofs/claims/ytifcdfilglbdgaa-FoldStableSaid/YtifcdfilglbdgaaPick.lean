/-
  lapidarylaw19.FoldStable's closure: of each row in an order one key.
-/
import Derived.Test.YtifcdfilglbdgaaStP
import Derived.Test.YtifcdfilglbdgaaFew3
namespace Go.Proofs.Ytifcdfilglbdgaa
open Go.RowKit

/-- kv is a slice of keys, each of two at least, with room for two. -/
def KeysCap (w : World) (kv : Value) (R : List (List V)) (kb : Nat) (rvb rvc : Nat → Nat) : Prop := ∃ a cap, kv = .slice a R.length cap ∧ ∀ i (h : i < R.length), a = some ⟨kb, 0, none⟩ ∧ 2 ≤ rvc i ∧ w.cell? ⟨kb, i, none⟩ = some (.slice (some ⟨rvb i, 0, none⟩) 2 (rvc i)) ∧ RowAt w (.slice (some ⟨rvb i, 0, none⟩) 2 (rvc i)) R[i]
theorem KeysCap.same {w w' : World} {kv : Value} {R : List (List V)} {kb : Nat} {rvb rvc : Nat → Nat} (h : KeysCap w kv R kb rvb rvc) (u : Below w.heap.size w w') : KeysCap w' kv R kb rvb rvc := by
  obtain ⟨a, cap, e, h⟩ := h
  exact ⟨a, cap, e, fun i hi => ⟨(h i hi).1, (h i hi).2.1, keeper u (h i hi).2.2.1, (h i hi).2.2.2.same u⟩⟩
theorem KeysAt.own {w : World} {B : Nat} {v : Value} {vals : List Value} {R : List (List V)} (h : w.ownsRow B 34 1 v R.length vals) (hl : R.length ≤ 1000) (he : ∀ (j : Nat) (hj : j < R.length) (u : Value), vals[j]? = some u → RowAt w u R[j]) : KeysAt w v R := by
  obtain ⟨a, cap, hv⟩ := ownsRow_slice h
  have hlen : vals.length = R.length := by have := h.1; simpa using this
  refine ⟨a, cap, hv, hl, fun i hi => ?_⟩
  have hu : vals[i]? = some (vals[i]'(by omega)) := List.getElem?_eq_getElem (by omega)
  obtain ⟨g, cap0, e0, c0, _⟩ := ownsRow_cell1 h hu
  rw [hv] at e0
  simp only [Value.slice.injEq] at e0
  obtain ⟨rfl, _, rfl⟩ := e0
  exact ⟨g, 0, _, rfl, by rw [Nat.zero_add]; exact c0, he i hi _ hu⟩
/-- One of two values. -/
theorem RowAt.sub {w : World} {b cap c : Nat} {r : List V} (h : RowAt w (.slice (some ⟨b, 0, none⟩) 2 cap) r) (hc : c < 2) (_hcap : 2 ≤ cap) : RowAt w (.slice (some ⟨b, c * 4, none⟩) 1 (cap - c)) [r.getD c V0] := by
  obtain ⟨a, cap', e, hl, hx⟩ := h
  simp only [Value.slice.injEq] at e
  obtain ⟨rfl, hlen, rfl⟩ := e
  refine ⟨_, _, rfl, by simp, fun i hi => ?_⟩
  have : i = 0 := by simp at hi; exact hi
  subst this
  obtain ⟨b', off, e2, x0, x1, x2, x3⟩ := hx c (by omega)
  simp only [Option.some.injEq, Addr.mk.injEq] at e2
  obtain ⟨rfl, rfl, _⟩ := e2
  have e3 : r.getD c V0 = r[c]'(by omega) := by simp [show c < r.length by omega]
  refine ⟨b, c * 4, rfl, ?_, ?_, ?_, ?_⟩
  all_goals rw [List.getElem_singleton, e3, Nat.zero_mul, Nat.add_zero]
  · rw [Nat.zero_add] at x0; exact x0
  · rw [Nat.zero_add] at x1; exact x1
  · rw [Nat.zero_add] at x2; exact x2
  · rw [Nat.zero_add] at x3; exact x3
set_option maxHeartbeats 4000000 in
set_option maxRecDepth 100000 in
theorem pick_at {w : World} {q kb : Nat} {kv ov : Value} {R : List (List V)} {l : List Int} {c : Nat} {rvb rvc : Nat → Nat} (hq : w.cell? ⟨q, 0, none⟩ = some kv) (hk : KeysCap w kv R kb rvb rvc) (ho : IntsAt w ov l) (hl : ∀ x ∈ l, 0 ≤ x ∧ x < R.length) (hc : c < 2) (_hR : R.length ≤ 1000) :
    Calls Try.prog 19 #[ov, .int .i64 c, .pointer (some ⟨q, 0, none⟩)] w fun r w' => ∃ v, r = .returned v ∧ KeysAt w' v (colR R c l) ∧ Below w.heap.size w w' := by
  obtain ⟨i34, hi34, hz340, hz341, hz342⟩ := info_parts Try.info34
  obtain ⟨ka, kc, hkv, hcell⟩ := hk
  obtain ⟨oa, oc, hov, hol, hoc⟩ := ho
  have HCELL := Lib.hid hcell; have HO := Lib.hid hoc; have HLX := Lib.hid hl
  subst hkv hov
  clear hcell hoc hl
  go_enter Try.func19, Try.ntmps19
  go_wp2_with fail
  go_loopw [6, 11] (fun v iv wr => ∃ (t : Nat) (vals : List Value), t ≤ l.length ∧ iv = .int .i64 t ∧ wr.ownsRow w.heap.size 34 1 v t vals ∧ Hid (∀ (j : Nat) (hj : j < l.length) (u : Value), vals[j]? = some u → RowAt w u [colV R c l[j]]) ∧ Below w.heap.size w wr) (fun _ iv _ => l.length - (intOf iv).toNat)
  case atStart => exact ⟨0, [], Nat.zero_le _, rfl, World.ownsRow_nil _ _ _ _, Lib.hid (fun j hj u hu => by cases hu), Below.refl _ _⟩
  case round =>
    obtain ⟨t, vals, ht, rfl, hown, HE, hB⟩ := hrel
    have hz := hB.size
    have hvl : vals.length = t := by have := hown.1; simpa using this
    have hwn : ∀ b, u6.ownBlock = some b → w.heap.size ≤ b := fun b hb => (World.ownsRow.lt hown b hb).1
    have HWN := Lib.hid hwn; clear hwn
    by_cases hlt : t < l.length
    · obtain ⟨ob, ooff, e1, x0⟩ := HO.out t hlt
      subst e1
      have hx := HLX.out l[t] (List.getElem_mem hlt)
      obtain ⟨j, hj⟩ := Int.eq_ofNat_of_zero_le hx.1
      have hj' : l[t] = (j : Int) := hj
      have hjR : j < R.length := by omega
      rw [hj'] at x0
      obtain ⟨hka, hcap, k0, hrow⟩ := HCELL.out j hjR
      subst hka
      have hsub := hrow.sub (c := c) hc hcap
      obtain ⟨rb, hrb⟩ : ∃ rb, rb = rvb j := ⟨_, rfl⟩
      obtain ⟨rc, hrc⟩ : ∃ rc, rc = rvc j := ⟨_, rfl⟩
      rw [← hrb, ← hrc] at k0 hsub
      rw [← hrc] at hcap
      have x0' := keeper hB x0
      have k0' := keeper hB k0
      have hq' := keeper hB hq
      have hcol : colV R c l[t] = R[j].getD c V0 := by
        unfold colV
        rw [hj', Int.toNat_natCast, show R.getD j [] = R[j] from by simp [hjR]]
      have hsub2 : RowAt w (.slice (some ⟨rb, c * 4, none⟩) 1 (rc - c)) [colV R c l[t]] := by rw [hcol]; exact hsub
      have HSUB := Lib.hid hsub2
      have HE1 : Hid (∀ (k : Nat) (hk : k < l.length) (u : Value), (vals ++ [.slice (some ⟨rb, c * 4, none⟩) 1 (rc - c)])[k]? = some u → RowAt w u [colV R c l[k]]) := fun k hk u hu => by
        by_cases hkt : k < vals.length
        · rw [List.getElem?_append_left hkt] at hu
          exact HE.out k hk u hu
        · rw [List.getElem?_append_right (by omega)] at hu
          have hk0 : k - vals.length = 0 := by
            rcases Nat.eq_zero_or_pos (k - vals.length) with h | h
            · exact h
            · rw [List.getElem?_eq_none (by simp; omega)] at hu; cases hu
          have hkt2 : k = t := by omega
          subst hkt2
          rw [hk0] at hu
          simp only [List.getElem?_cons_zero, Option.some.injEq] at hu
          subst hu
          exact HSUB.out
      have a1 : (0 : Int) ≤ (t : Int) := by omega
      have a2 : (t : Int) < (l.length : Int) := by omega
      have a3 : (0 : Int) ≤ (j : Int) := by omega
      have a4 : (j : Int) < (R.length : Int) := by omega
      have a5 : (0 : Int) ≤ (c : Int) := by omega
      have a6 : IntKind.i64.wrap ((c : Int) + 1) = (c : Int) + 1 := IntWalk.i64_in _ (by omega)
      have a7 : (c : Int) + 1 ≤ (rc : Int) := by omega
      have a8 : (c : Int) ≤ (c : Int) + 1 := by omega
      have a9 : ¬ rc = c := by omega
      have HOWN := Lib.hid hown
      clear hsub hsub2 hrow hrb hrc hcol hj hj' hx k0 x0
      go_wp2_with (at_builtin; refine wpList_append_mine rfl (.tmp 15) (.tmp 24) 22 rfl w.heap.size 34 i34 (.slice none 0 0) 1 24 Try.underlying22 hi34 hz340 hz341 hz342 rfl (by decide) _ _ _ rfl (World.ownsRow.alloc HOWN.out _) ⟨wr.heap.size, 0, none⟩ 1 1 [.slice (some ⟨rb, c * 4, none⟩) 1 (rc - c)] rfl rfl ?c1 ?c2 ?c3 ?c4 ?c5 ?_)
      (first | (case c1 => exact cell_one_new _ _ _) | skip)
      case c2 => first | rfl | (intro u hu; simp at hu; subst hu; rfl)
      case c3 => unfold maxLen; omega
      case c4 => omega
      case c5 => first | omega | (simp; omega)
      intro v' w5 hown' hupd hnew
      have hb5 : Below w.heap.size wr w5 := Upd.below (S := fun b => u6.ownBlock = some b) ((Upd.same ((Below.refl _ _).alloc (Nat.le_refl _) _)).trans hupd) hz (fun b hb e => by have := HWN.out _ e; omega)
      go_wp2_with fail
      go_roundw
      case rel => exact ⟨t + 1, _, by omega, by go_num, hown', HE1, hB.trans hb5⟩
      case measure => simp [intOf]; omega
    · have htl : t = l.length := by omega
      subst htl
      have hf := KeysAt.own (R := colR R c l) (by rw [colR_len]; exact hown) (by rw [colR_len]; exact hol) (fun j hj u hu => by
        have hj2 : j < l.length := by rw [colR_len] at hj; exact hj
        have h := (HE.out j hj2 u hu).same hB
        simpa [colR] using h)
      have HF := Lib.hid hf
      clear hf
      go_wp2_with fail
      go_ret
      exact ⟨_, rfl, HF.out, hB⟩
end Go.Proofs.Ytifcdfilglbdgaa
