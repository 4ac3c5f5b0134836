/-
  fold.Sort: the numbers of the rows, in the stable order of their keys.
-/
import Derived.Test.YtifcdfilglbdgaaCmp
namespace Go.Proofs.Ytifcdfilglbdgaa
open Go.RowKit

def idxs (n : Nat) : List Int := (List.range n).map fun (i : Nat) => (i : Int)
theorem idxs_len (n : Nat) : (idxs n).length = n := by simp [idxs]
theorem idxs_succ (n : Nat) : idxs (n + 1) = idxs n ++ [(n : Int)] := by simp [idxs, List.range_succ]
theorem idxs_asc (n : Nat) : (idxs n).Pairwise (· < ·) := by
  unfold idxs
  rw [List.pairwise_map]
  exact List.pairwise_lt_range.imp (fun h => by omega)
theorem mem_idxs {n : Nat} {x : Int} : x ∈ idxs n ↔ 0 ≤ x ∧ x < n := by
  unfold idxs
  rw [List.mem_map]
  constructor
  · rintro ⟨i, hi, rfl⟩
    have := List.mem_range.1 hi
    omega
  · exact fun h => ⟨x.toNat, List.mem_range.2 (by omega), by omega⟩
theorem Try.info3 : (Try.prog.info? 3).map (fun i => (i.zero, i.size, i.bytes)) = some (some (.int .i64 0), 1, 8) := by kernel_rfl

/-- The stable sort of n numbers is done. -/
def StableOk (n : Nat) : Prop := ∀ {B : Nat} {w0 : World} {p q g cap : Nat} {lt : Int → Int → Bool} {ok : Int → Prop}, SWO lt ok → CmpOk B w0 #[.pointer (some ⟨p, 0, none⟩), .pointer (some ⟨q, 0, none⟩)] lt ok → B ≤ g →
    ∀ {w : World}, Below B w0 w → ∀ {S : List Int}, IRow w g n cap S → S.Pairwise (· < ·) → (∀ x ∈ S, ok x) →
    Calls Try.prog 36 #[.slice (some ⟨g, 0, none⟩) n cap, .int .i64 n, .func (.func 28) #[] #[.pointer (some ⟨p, 0, none⟩), .pointer (some ⟨q, 0, none⟩)]] w fun r w' =>
      r = .returned (.tuple #[]) ∧ ∃ C, C.Perm S ∧ Srt lt C ∧ IRow w' g n cap C ∧ Upd (fun b => b = g) w w'
theorem stableOk_small {n : Nat} (h : n < 20) : StableOk n := fun hs hc hg _ hB _ hrow hasc hok => stable_small hs hc hg h hB hrow hasc hok

theorem stable_nil (f : Value) (w : World) : Calls Try.prog 36 #[.slice none 0 0, .int .i64 0, f] w fun r w' => r = .returned (.tuple #[]) ∧ w = w' := by
  have hi : ∀ w, Calls Try.prog 39 #[.slice none 0 0, .int .i64 0, .int .i64 0, f] w fun r w' => r = .returned (.tuple #[]) ∧ w = w' := fun w => by
    go_enter Try.func39, Try.ntmps39
    go_wp2_with fail
    go_loopw [8] (fun iv wr => iv = .int .i64 1 ∧ wr = w) (fun _ _ => 0)
    case atStart => exact ⟨rfl, rfl⟩
    case round =>
      obtain ⟨rfl, rfl⟩ := hrel
      go_wp2_with fail
      go_end0
      exact ⟨rfl, rfl⟩
  have HI := Lib.hid hi
  clear hi
  go_enter Try.func36, Try.ntmps36
  go_wp2_with fail
  go_loopw [7, 8] (fun av bv wr => av = .int .i64 0 ∧ bv = .int .i64 20 ∧ wr = w) (fun _ _ _ => 0)
  case atStart => exact ⟨rfl, rfl, rfl⟩
  case round =>
    obtain ⟨rfl, rfl, rfl⟩ := hrel
    go_wp2_with fail
    refine (HI.out _).mono ?_
    rintro r w1 ⟨rfl, rfl⟩
    go_wp2_with fail
    go_loopw [6] (fun sv wq => sv = .int .i64 20 ∧ wq = wr) (fun _ _ => 0)
    case atStart => exact ⟨rfl, rfl⟩
    case round =>
      obtain ⟨rfl, rfl⟩ := hrel
      go_wp2_with fail
      go_end0
      exact ⟨rfl, rfl⟩

/-- slices.SortStableFunc. -/
theorem sorted_at {B : Nat} {w0 : World} {p q n : Nat} {lt : Int → Int → Bool} {ok : Int → Prop} {v : Value} (hst : n = 0 ∨ StableOk n) (hs : SWO lt ok) (hc : CmpOk B w0 #[.pointer (some ⟨p, 0, none⟩), .pointer (some ⟨q, 0, none⟩)] lt ok)
    {w : World} (hB : Below B w0 w) {S : List Int} (hrow : w.ownsRow B 3 1 v n (S.map (Value.int .i64))) (hasc : S.Pairwise (· < ·)) (hok : ∀ x ∈ S, ok x) (hn : n ≤ 1000) :
    Calls Try.prog 27 #[v, .func (.func 28) #[] #[.pointer (some ⟨p, 0, none⟩), .pointer (some ⟨q, 0, none⟩)]] w fun r w' =>
      r = .returned (.tuple #[]) ∧ ∃ C, C.Perm S ∧ Srt lt C ∧ IntsAt w' v C ∧ Below B w0 w' := by
  have hl : S.length = n := by have := hrow.1; simpa using this
  have hm : Calls Try.prog 36 #[v, .int .i64 n, .func (.func 28) #[] #[.pointer (some ⟨p, 0, none⟩), .pointer (some ⟨q, 0, none⟩)]] w fun r w' =>
      r = .returned (.tuple #[]) ∧ ∃ C, C.Perm S ∧ Srt lt C ∧ IntsAt w' v C ∧ Below B w0 w' := by
    by_cases h0 : n = 0
    · subst h0
      obtain rfl : S = [] := List.eq_nil_of_length_eq_zero hl
      rcases hrow.2 with ⟨rfl, _⟩ | ⟨g, cap, cur, rfl, hb, hh, _⟩
      · refine (stable_nil _ w).mono fun r w' ⟨h1, h2⟩ => ⟨h1, [], List.Perm.refl _, List.Pairwise.nil, ⟨none, 0, rfl, by simp, fun i hi => by cases hi⟩, by rw [← h2]; exact hB⟩
      · have hr : IRow w g 0 cap [] := ownsRow_base hrow (Nat.zero_le _)
        refine (stable_small hs hc hb (by decide) hB hr hasc hok).mono fun r w' ⟨h1, C, h2, h3, h4, h5⟩ => ⟨h1, C, h2, h3, ?_, hB.trans (h5.below (Nat.le_trans hb (Nat.le_of_lt (World.ownsRow.lt hrow g rfl).2)) (fun b hb2 e => by omega))⟩
        have : C.length = 0 := h4.len
        exact IntsAt.row (base := 0) (e := 3) (by rw [this]; exact h4) (by omega)
    · have hst2 : StableOk n := hst.resolve_left h0
      obtain ⟨g, cap, rfl, _, hb, hlt⟩ := ownsRow_some hrow (by omega)
      have hr : IRow w g n cap S := ownsRow_base hrow (Nat.zero_le _)
      refine (hst2 hs hc hb hB hr hasc hok).mono fun r w' ⟨h1, C, h2, h3, h4, h5⟩ => ⟨h1, C, h2, h3, ?_, hB.trans (h5.below (by omega) (fun b hb2 e => by omega))⟩
      have := h4.len
      exact IntsAt.row (base := 0) (e := 3) (by rw [this]; exact h4) (by omega)
  obtain ⟨a, cap, rfl⟩ := ownsRow_slice hrow
  have HM := Lib.hid hm
  clear hm hst hs hc hB hrow hasc hok hl
  go_enter Try.func27, Try.ntmps27
  go_wp2_with fail
  refine HM.out.mono ?_
  rintro r w1 ⟨rfl, hp⟩
  have HP := Lib.hid hp
  clear hp
  go_wp2_with fail
  go_end0
  exact ⟨rfl, HP.out⟩

set_option maxHeartbeats 2000000 in
set_option maxRecDepth 100000 in
/-- fold.Sort. -/
theorem sort_at {w : World} {kv dv : Value} {R : List (List V)} {d : List Bool} {m : Nat} (hk : KeysAt w kv R) (hd : DescAt w dv d) (hR : ∀ r ∈ R, r.length = m) (hst : R.length = 0 ∨ StableOk R.length) :
    Calls Try.prog 14 #[kv, dv] w fun r w' => ∃ v C, r = .returned v ∧ C.Perm (idxs R.length) ∧ Srt (ltN R d) C ∧ IntsAt w' v C ∧ Below w.heap.size w w' := by
  obtain ⟨i0, hi, hz0, hz1, hz2⟩ := info_parts Try.info3
  obtain ⟨ka, kc, hkv⟩ : ∃ a c, kv = .slice a R.length c := by obtain ⟨a, c, e, _⟩ := hk; exact ⟨a, c, e⟩
  obtain ⟨da, dc, hdv⟩ : ∃ a c, dv = .slice a d.length c := by obtain ⟨a, c, e, _⟩ := hd; exact ⟨a, c, e⟩
  have hkl : R.length ≤ 1000 := by obtain ⟨a, c, e, h, _⟩ := hk; exact h
  have hal : Below w.heap.size w ((w.alloc (.cells #[kv] 22)).alloc (.cells #[dv] 30)) := below_then (below_alloc _ _) (below_alloc _ _)
  have hA := block_alloc (heap_new1 w (.cells #[kv] 22)) (.cells #[dv] 30)
  have hB := heap_new2 w (.cells #[kv] 22) (.cells #[dv] 30)
  have HK := Lib.hid hk; have HD := Lib.hid hd; have HR := Lib.hid hR; have HST := Lib.hid hst
  clear hk hd hR hst
  subst hkv hdv
  go_enter Try.func14, Try.ntmps14
  go_wp2_with fail
  obtain ⟨wz, hwz⟩ : ∃ wz, wz = ((w.alloc (.cells #[.slice ka R.length kc] 22)).alloc (.cells #[.slice da d.length dc] 30)) := ⟨_, rfl⟩
  obtain ⟨q2, hq2⟩ : ∃ q2, q2 = w.heap.size + 1 := ⟨_, rfl⟩
  obtain ⟨q1, hq1⟩ : ∃ q1, q1 = w.heap.size := ⟨_, rfl⟩
  rw [← hwz] at hal hA hB
  rw [← hq2] at hB
  rw [← hq1] at hA
  rw [← hwz, ← hq2, ← hq1]
  clear hwz hq2 hq1
  have c1 : wz.cell? ⟨q1, 0, none⟩ = some (.slice ka R.length kc) := cell_of_block hA rfl
  have c2 : wz.cell? ⟨q2, 0, none⟩ = some (.slice da d.length dc) := cell_of_block hB rfl
  have HCMP := Lib.hid (cmp_ok c1 c2 (HK.out.same hal) (HD.out.same hal) HR.out)
  clear hA hB c1 c2
  go_loopw [5, 9] (fun v i wr => ∃ k : Nat, k ≤ R.length ∧ i = .int .i64 k ∧ wr.ownsRow wz.heap.size 3 1 v k ((idxs k).map (Value.int .i64)) ∧ Below wz.heap.size wz wr) (fun _ i _ => R.length - (intOf i).toNat)
  case atStart => exact ⟨0, Nat.zero_le _, rfl, World.ownsRow_nil _ _ _ _, Below.refl _ _⟩
  case round =>
    obtain ⟨k, hk, rfl, hown, hB⟩ := hrel
    have hz := hB.size
    have hwn : ∀ b, u5.ownBlock = some b → wz.heap.size ≤ b := fun b hb => (World.ownsRow.lt hown b hb).1
    have HWN := Lib.hid hwn; clear hwn
    by_cases hlt : k < R.length
    · have hsc : (idxs (k + 1)).map (Value.int .i64) = (idxs k).map (Value.int .i64) ++ [.int .i64 k] := by rw [idxs_succ, List.map_append]; rfl
      have HSC := Lib.hid hsc; clear hsc
      go_wp2_with (at_builtin; refine wpList_append_mine rfl (.tmp 12) (.tmp 14) 28 rfl wz.heap.size 3 i0 (.int .i64 0) 1 8 Try.underlying28 hi hz0 hz1 hz2 rfl (by decide) _ _ _ rfl (World.ownsRow.alloc hown _) ⟨wr.heap.size, 0, none⟩ 1 1 [.int .i64 k] rfl rfl ?c1 ?c2 ?c3 ?c4 ?c5 ?_)
      case c1 => first | exact fun j u h => h | exact cell_one_new _ _ _
      case c2 => intro u hu; simp at hu; subst hu; rfl
      case c3 => unfold maxLen; omega
      case c4 => omega
      case c5 => first | omega | (simp; omega)
      intro v' w5 hown' hupd hnew
      have hb5 : Below wz.heap.size wr w5 := Upd.below (S := fun b => u5.ownBlock = some b) ((Upd.same ((Below.refl _ _).alloc (Nat.le_refl _) _)).trans hupd) hz (fun b hb e => by have := HWN.out _ e; omega)
      go_wp2_with fail
      go_roundw
      case rel => exact ⟨k + 1, by omega, by go_num, by rw [HSC.out]; exact hown', hB.trans hb5⟩
      case measure => simp [intOf]; omega
    · have hkl2 : k = R.length := by omega
      subst hkl2
      have hcall := sorted_at HST.out (ltN_swo HR.out d) HCMP.out hB hown (idxs_asc _) (fun x hx => mem_idxs.1 hx) hkl
      have HCALL := Lib.hid hcall
      clear hcall
      obtain ⟨oa, oc, hov⟩ := ownsRow_slice hown
      subst hov
      clear hown
      go_wp2_with fail
      refine HCALL.out.mono ?_
      rintro r w1 ⟨rfl, C, h1, h2, h3, h4⟩
      have H1 := Lib.hid h1; have H2 := Lib.hid h2; have H3 := Lib.hid h3
      clear h1 h2 h3
      go_wp2_with fail
      go_ret
      exact ⟨_, C, rfl, H1.out, H2.out, H3.out, below_then hal h4⟩
end Go.Proofs.Ytifcdfilglbdgaa
