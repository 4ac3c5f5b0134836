/-
  BookNames, the walk: of any text both sides tell whether it is a name; just such tables can be made.
-/
import Derived.Test.YtdohkjpapmkhjaaDesk
namespace Go.Proofs.Ytdohkjpapmkhjaa
open Go.RowKit

theorem few_all (s : ByteArray) (w : World) (hsz : s.size ≤ 9223372036854775807) : Calls Try.prog 46 #[.string s] w fun e w' => e = .returned (.string (cut30 s)) ∧ w' = w := by
  by_cases h : s.size ≤ 30
  · have h1 : (s.size : Int) ≤ 30 := by omega
    have hm : min s.size 30 = s.size := by omega
    go_enter Try.func46, Try.ntmps46
    go_wp2_with fail
    go_ret
    exact ⟨by unfold cut30; rw [hm, ByteArray.extract_zero_size]; rfl, rfl⟩
  · have h1 : (30 : Int) < (s.size : Int) := by omega
    have hm : min s.size 30 = 30 := by omega
    go_enter Try.func46, Try.ntmps46
    go_wp2_with fail
    go_ret
    exact ⟨by unfold cut30; rw [hm]; rfl, rfl⟩

set_option maxHeartbeats 4000000 in
set_option maxRecDepth 100000 in
theorem bookNames_any (s0 : ByteArray) (w : World) (hs0 : s0.size ≤ 9223372036854775807) : Calls Try.prog 12 #[.string s0] w fun e w' => e = .returned (.bool true) ∧ Below w.heap.size w w' := by
  obtain ⟨s, hs⟩ : ∃ s, s = cut30 s0 := ⟨_, rfl⟩
  have hsz : s.size ≤ 4611686018427387904 := by rw [hs]; exact Nat.le_trans (size_cut30 s0) (by decide)
  have hfew := fun w' => few_all s0 w' hs0
  rw [← hs] at hfew
  have HFEW := Lib.hid hfew
  have hnm := fun w' => name_any s w' hsz
  have hrn := fun w' => rname_any s w' hsz
  clear hfew hs
  obtain ⟨nb, hnb⟩ : ∃ nb, nb = isName s := ⟨_, rfl⟩
  rw [← hnb] at hnm hrn
  have HNM := Lib.hid hnm; have HRN := Lib.hid hrn; have HNB := Lib.hid hnb
  clear hnm hrn hnb
  go_enter Try.func12, Try.ntmps12
  go_wp2_with fail
  refine (awake_eleven w).mono ?_
  rintro e w0 ⟨rfl, b0⟩
  go_wp2_with fail
  refine (HFEW.out w0).mono ?_
  rintro e wf ⟨rfl, rfl⟩
  go_wp2_with fail
  refine (new_ok 1 wf (by decide) (by decide) (fun _ => 0) 1).mono ?_
  rintro e w1 ⟨rfl, l1, b1⟩
  go_wp2_with fail
  refine (begin_at l1 (by decide)).mono ?_
  rintro e w2 ⟨rfl, l2, u2⟩
  have l2' : LogAt (col (col (fun _ => 0) wf.heap.size 1) w1.heap.size 1) 1 w2 wf.heap.size 1 [1] := l2
  have b2 : Below wf.heap.size w1 w2 := u2.below b1.size (fun b hb e => by rw [col_old hb] at e; exact absurd e (by decide))
  have b12 := b1.trans b2
  go_wp2_with fail
  refine (bnew_at w2 (col (col (fun _ => 0) wf.heap.size 1) w1.heap.size 1) 2).mono ?_
  rintro e w3 ⟨rfl, k3, b3⟩
  have D3 : Desk wf (col (col (col (fun _ => 0) wf.heap.size 1) w1.heap.size 1) w2.heap.size 2) w3 wf.heap.size w2.heap.size [1] (.slice none 0 0) (.slice none 0 0) [] [] 0 :=
    ⟨(l2'.recol (fun b hb => col_old hb)).same b3, k3, fun b hb => by rw [col_old (Nat.lt_of_lt_of_le hb b12.size), col_old (Nat.lt_of_lt_of_le hb b1.size), col_old hb], b12.trans (b3.mono b12.size)⟩
  obtain ⟨pl, hpl⟩ : ∃ pl, pl = wf.heap.size := ⟨_, rfl⟩
  obtain ⟨p, hp⟩ : ∃ p, p = w2.heap.size := ⟨_, rfl⟩
  obtain ⟨c3, hc3⟩ : ∃ c3, c3 = (col (col (col (fun _ => 0) wf.heap.size 1) w1.heap.size 1) w2.heap.size 2) := ⟨_, rfl⟩
  rw [← hc3] at D3
  rw [← hpl, ← hp] at D3
  rw [← hpl, ← hp]
  clear hc3 hpl hp l1 l2 l2' u2 b1 b2 b12 k3 b3
  go_wp2_with fail
  have e3 : Ytdohkjpapmkhjaa.take 1 [1] 1 = ⟨1, 2, 2, []⟩ := rfl
  refine (desk_take D3 1).mono ?_
  rw [e3]
  rintro e w4 ⟨r4, rfl, O4, D4, _⟩
  clear D3 e3
  obtain ⟨ra, rc, hr4⟩ := ownsRow_slice O4.1.1
  subst hr4
  unfold Snp.val
  go_wp2_with fail
  refine (one_at _).mono ?_
  rintro e w5 ⟨g, rfl, _, hc5, hk5⟩
  have D5 := D4.same hk5
  have O5 := O4.same hk5
  have fin : ∀ {w'}, Below wf.heap.size wf w' → Below w.heap.size w w' := fun h => b0.trans (h.mono b0.size)
  have FIN := Lib.hid (fun w' (h : Below wf.heap.size wf w') => b0.trans (h.mono b0.size))
  clear D4 O4 fin
  cases nb with
  | true =>
    have HC : Calls Try.prog 48 #[.pointer (some ⟨p, 0, none⟩), .pointer (some ⟨pl, 0, none⟩), .agg #[.int .u64 1, .int .u64 2, .int .u64 2, .slice ra 0 rc], .string s, .slice (some ⟨g, 0, none⟩) 1 1] w5 fun r w'' => r = .returned (.tuple #[.int .u64 1, .int .i64 0]) ∧ Below wf.heap.size wf w'' := by
      refine (desk_create (s := ⟨1, 2, 2, []⟩) D5 O5.1 s hsz hc5 HNB.out.symm rfl (by decide) (by decide)).mono ?_
      rintro r w'' ⟨h1, ⟨v', bt, cv', h2⟩, h3⟩
      exact ⟨h1, h2.below⟩
    have HC := Lib.hid HC
    clear D5 O5 hc5
    go_wp2_with fail
    refine HC.out.mono ?_
    rintro e w6 ⟨rfl, b6⟩
    clear HC
    go_wp2_with fail
    refine (HNM.out _).mono ?_
    rintro e w7 ⟨rfl, b7⟩
    go_wp2_with fail
    refine (HRN.out _).mono ?_
    rintro e w8 ⟨rfl, rfl⟩
    go_wp2_with fail
    refine (HRN.out _).mono ?_
    rintro e w9 ⟨rfl, rfl⟩
    go_wp2_with fail
    go_ret
    exact ⟨rfl, FIN.out _ (b6.trans (b7.mono b6.size))⟩
  | false =>
    have HC : Calls Try.prog 48 #[.pointer (some ⟨p, 0, none⟩), .pointer (some ⟨pl, 0, none⟩), .agg #[.int .u64 1, .int .u64 2, .int .u64 2, .slice ra 0 rc], .string s, .slice (some ⟨g, 0, none⟩) 1 1] w5 fun r w'' => r = .returned (.tuple #[.int .u64 0, .int .i64 3]) ∧ Below w5.heap.size w5 w'' :=
      create_form (s := ⟨1, 2, 2, []⟩) D5.b O5.1 s hsz hc5 HNB.out.symm
    have HC := Lib.hid HC
    have hb5 := D5.below
    clear D5 O5 hc5
    go_wp2_with fail
    refine HC.out.mono ?_
    rintro e w6 ⟨rfl, b6⟩
    clear HC
    go_wp2_with fail
    refine (HNM.out _).mono ?_
    rintro e w7 ⟨rfl, b7⟩
    go_wp2_with fail
    refine (HRN.out _).mono ?_
    rintro e w8 ⟨rfl, rfl⟩
    go_wp2_with fail
    refine (HRN.out _).mono ?_
    rintro e w9 ⟨rfl, rfl⟩
    go_wp2_with fail
    go_ret
    have h6 := hb5.trans (b6.mono hb5.size)
    exact ⟨rfl, FIN.out _ (h6.trans (b7.mono h6.size))⟩
end Go.Proofs.Ytdohkjpapmkhjaa
