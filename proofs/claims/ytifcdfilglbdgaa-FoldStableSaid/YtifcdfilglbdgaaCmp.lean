/-
  fold.Sort's comparison; slices.stableCmpFunc of fewer than twenty.
-/
import Derived.Test.YtifcdfilglbdgaaIns
import Derived.Test.YtifcdfilglbdgaaLex
namespace Go.Proofs.Ytifcdfilglbdgaa
open Go.RowKit

set_option maxHeartbeats 2000000 in
set_option maxRecDepth 100000 in
theorem cmp_at {w : World} {q1 q2 : Nat} {kv dv : Value} {R : List (List V)} {d : List Bool} {m : Nat} (h1 : w.cell? ⟨q1, 0, none⟩ = some kv) (h2 : w.cell? ⟨q2, 0, none⟩ = some dv) (hk : KeysAt w kv R) (hd : DescAt w dv d) (hR : ∀ r ∈ R, r.length = m)
    {i k : Nat} (hi : i < R.length) (hk2 : k < R.length) :
    Calls Try.prog 28 #[.int .i64 i, .int .i64 k, .pointer (some ⟨q1, 0, none⟩), .pointer (some ⟨q2, 0, none⟩)] w fun r w' => (∃ c : Int, r = .returned (.int .i64 c) ∧ decide (c < 0) = lessR (keyR R[i]) (keyR R[k]) d) ∧ Below w.heap.size w w' := by
  obtain ⟨ka, kc, rfl, hkl, hkc⟩ := hk
  obtain ⟨b, off, ri, hka, ci, hri⟩ := hkc i hi
  obtain ⟨b', off', rk, hka', ck, hrk⟩ := hkc k hk2
  rw [hka] at hka'
  simp only [Option.some.injEq, Addr.mk.injEq] at hka'
  obtain ⟨rfl, rfl, _⟩ := hka'
  subst hka
  have hll : R[k].length = R[i].length := (hR _ (List.getElem_mem hk2)).trans (hR _ (List.getElem_mem hi)).symm
  have hca : ∀ w', Below w.heap.size w w' → Calls Try.prog 17 #[ri, rk, dv] w' fun r w'' => r = .returned (.bool (lessR (keyR R[i]) (keyR R[k]) d)) ∧ Below w'.heap.size w' w'' := fun w' hb => foldLess_at (hri.same hb) (hrk.same hb) (hd.same hb) hll
  have hcb : ∀ w', Below w.heap.size w w' → Calls Try.prog 17 #[rk, ri, dv] w' fun r w'' => r = .returned (.bool (lessR (keyR R[k]) (keyR R[i]) d)) ∧ Below w'.heap.size w' w'' := fun w' hb => foldLess_at (hrk.same hb) (hri.same hb) (hd.same hb) hll.symm
  obtain ⟨ra, rac, rfl⟩ : ∃ a c, ri = .slice a R[i].length c := by obtain ⟨a, c, e, _⟩ := hri; exact ⟨a, c, e⟩
  obtain ⟨rb, rbc, rfl⟩ : ∃ a c, rk = .slice a R[k].length c := by obtain ⟨a, c, e, _⟩ := hrk; exact ⟨a, c, e⟩
  obtain ⟨da, dc, rfl⟩ : ∃ a c, dv = .slice a d.length c := by obtain ⟨a, c, e, _⟩ := hd; exact ⟨a, c, e⟩
  obtain ⟨x, hx⟩ : ∃ x, x = lessR (keyR R[i]) (keyR R[k]) d := ⟨_, rfl⟩
  obtain ⟨y, hy⟩ : ∃ y, y = lessR (keyR R[k]) (keyR R[i]) d := ⟨_, rfl⟩
  rw [← hx] at hca ⊢
  rw [← hy] at hcb
  obtain ⟨la, hla⟩ : ∃ z, z = R[i].length := ⟨_, rfl⟩
  obtain ⟨lb, hlb⟩ : ∃ z, z = R[k].length := ⟨_, rfl⟩
  rw [← hla] at ci hca hcb
  rw [← hlb] at ck hca hcb
  obtain ⟨dl, hdl⟩ : ∃ z, z = d.length := ⟨_, rfl⟩
  rw [← hdl] at h2 hca hcb
  obtain ⟨n, hn⟩ : ∃ z, z = R.length := ⟨_, rfl⟩
  rw [← hn] at h1 hi hk2 hkl
  have HCA := Lib.hid hca; have HCB := Lib.hid hcb
  clear hca hcb hx hy hla hlb hdl hn hri hrk hd hkc hll hR
  have a1 : (0 : Int) ≤ (i : Int) := by omega
  have a2 : (i : Int) < (n : Int) := by omega
  have a3 : (0 : Int) ≤ (k : Int) := by omega
  have a4 : (k : Int) < (n : Int) := by omega
  have hd0 : Below w.heap.size w w.drew := below_drewN (n := 1)
  go_enter Try.func28, Try.ntmps28
  go_wp2_with fail
  go_region_held3 (fun z => z.cell? ⟨q1, 0, none⟩ = some (.slice (some ⟨b, off, none⟩) n kc) ∧ z.cell? ⟨q2, 0, none⟩ = some (.slice da dl dc) ∧ z.cell? ⟨b, off + i, none⟩ = some (.slice ra la rac) ∧ z.cell? ⟨b, off + k, none⟩ = some (.slice rb lb rbc))
    (first | (with_reducible exact ⟨keeper hd1 h1, keeper hd1 h2, keeper hd1 ci, keeper hd1 ck⟩) | (with_reducible exact ⟨keeper hd0 h1, keeper hd0 h2, keeper hd0 ci, keeper hd0 ck⟩))
    (first | (go_at_call 17; (with_reducible refine (HCA.out _ hd0).mono ?_); rintro r w1 ⟨rfl, hk1⟩; have hd1 := below_then hd0 hk1))
  cases x with
  | true =>
    go_wp2_with fail
    go_ret
    exact ⟨⟨-1, rfl, rfl⟩, hd1⟩
  | false =>
    have j1 := keeper hd1 h1
    have j2 := keeper hd1 h2
    have j3 := keeper hd1 ci
    have j4 := keeper hd1 ck
    have he0 : Below w1.heap.size w1 w1.drew := below_drewN (n := 1)
    have hf0 := below_then hd1 he0
    clear h1 h2 ci ck
    go_wp2_with fail
    go_region_held3 (fun z => z.cell? ⟨q1, 0, none⟩ = some (.slice (some ⟨b, off, none⟩) n kc) ∧ z.cell? ⟨q2, 0, none⟩ = some (.slice da dl dc) ∧ z.cell? ⟨b, off + i, none⟩ = some (.slice ra la rac) ∧ z.cell? ⟨b, off + k, none⟩ = some (.slice rb lb rbc))
      (first | (with_reducible exact ⟨keeper he1 j1, keeper he1 j2, keeper he1 j3, keeper he1 j4⟩) | (with_reducible exact ⟨keeper he0 j1, keeper he0 j2, keeper he0 j3, keeper he0 j4⟩))
      (first | (go_at_call 17; (with_reducible refine (HCB.out _ hf0).mono ?_); rintro r w2 ⟨rfl, hk2⟩; have he1 := below_then he0 hk2))
    cases y with
    | true =>
      go_wp2_with fail
      go_ret
      exact ⟨⟨1, rfl, rfl⟩, below_then hd1 he1⟩
    | false =>
      go_wp2_with fail
      go_ret
      exact ⟨⟨0, rfl, rfl⟩, below_then hd1 he1⟩

/-- The comparison is what the sort asks for. -/
theorem cmp_ok {w : World} {q1 q2 : Nat} {kv dv : Value} {R : List (List V)} {d : List Bool} {m : Nat} (h1 : w.cell? ⟨q1, 0, none⟩ = some kv) (h2 : w.cell? ⟨q2, 0, none⟩ = some dv) (hk : KeysAt w kv R) (hd : DescAt w dv d) (hR : ∀ r ∈ R, r.length = m) :
    CmpOk w.heap.size w #[.pointer (some ⟨q1, 0, none⟩), .pointer (some ⟨q2, 0, none⟩)] (ltN R d) (okN R) := by
  intro w' hb x y hx hy
  obtain ⟨i, rfl⟩ := Int.eq_ofNat_of_zero_le hx.1
  obtain ⟨k, rfl⟩ := Int.eq_ofNat_of_zero_le hy.1
  have hi : i < R.length := by have := hx.2; omega
  have hk2 : k < R.length := by have := hy.2; omega
  have e : ltN R d (i : Int) (k : Int) = lessR (keyR R[i]) (keyR R[k]) d := by
    unfold ltN
    simp [hi, hk2]
  rw [e]
  exact cmp_at (keeper hb h1) (keeper hb h2) (hk.same hb) (hd.same hb) hR hi hk2

set_option maxRecDepth 100000 in
/-- slices.stableCmpFunc: fewer than twenty. -/
theorem stable_small {B : Nat} {w0 : World} {p q g n cap : Nat} {lt : Int → Int → Bool} {ok : Int → Prop} (hs : SWO lt ok) (hc : CmpOk B w0 #[.pointer (some ⟨p, 0, none⟩), .pointer (some ⟨q, 0, none⟩)] lt ok) (hg : B ≤ g) (hn : n < 20)
    {w : World} (hB : Below B w0 w) {S : List Int} (hrow : IRow w g n cap S) (hasc : S.Pairwise (· < ·)) (hok : ∀ x ∈ S, ok x) :
    Calls Try.prog 36 #[.slice (some ⟨g, 0, none⟩) n cap, .int .i64 n, .func (.func 28) #[] #[.pointer (some ⟨p, 0, none⟩), .pointer (some ⟨q, 0, none⟩)]] w fun r w' =>
      r = .returned (.tuple #[]) ∧ ∃ C, C.Perm S ∧ Srt lt C ∧ IRow w' g n cap C ∧ Upd (fun b => b = g) w w' := by
  have hl := hrow.len
  have h := ins_at hs hc hg (by omega : n ≤ 1000) hB (P := []) (S := S) (Z := []) (by simpa using hrow) hasc hok
  simp only [List.length_nil, hl, List.nil_append, List.append_nil] at h
  have e : ((0 : Nat) : Int) + (n : Int) = (n : Int) := by omega
  rw [e] at h
  have h' : Calls Try.prog 39 #[.slice (some ⟨g, 0, none⟩) n cap, .int .i64 0, .int .i64 n, .func (.func 28) #[] #[.pointer (some ⟨p, 0, none⟩), .pointer (some ⟨q, 0, none⟩)]] w fun r w' =>
      r = .returned (.tuple #[]) ∧ ∃ C, C.Perm S ∧ Srt lt C ∧ IRow w' g n cap C ∧ Upd (fun b => b = g) w w' := h
  have H := Lib.hid h'
  have b1 : ¬ (20 : Int) ≤ (n : Int) := by omega
  have b2 : ¬ (20 : Int) < (n : Int) := by omega
  clear h h' hl e hs hc hrow hasc hok hB
  go_enter Try.func36, Try.ntmps36
  go_wp2_with fail
  go_loopw [7, 8] (fun av bv wr => av = .int .i64 0 ∧ bv = .int .i64 20 ∧ wr = w) (fun _ _ _ => 0)
  case atStart => exact ⟨rfl, rfl, rfl⟩
  case round =>
    obtain ⟨rfl, rfl, rfl⟩ := hrel
    go_wp2_with fail
    refine H.out.mono ?_
    rintro r w1 ⟨rfl, hp⟩
    have HP := Lib.hid hp
    clear hp
    go_wp2_with fail
    go_loopw [6] (fun sv wq => sv = .int .i64 20 ∧ wq = w1) (fun _ _ => 0)
    case atStart => exact ⟨rfl, rfl⟩
    case round =>
      obtain ⟨rfl, rfl⟩ := hrel
      go_wp2_with fail
      go_end0
      exact ⟨rfl, HP.out⟩
end Go.Proofs.Ytifcdfilglbdgaa
