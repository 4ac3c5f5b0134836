/- TopSteady returns true, in whatever world bears the listed variables. No conditions. -/
import Derived.Test.YtnkjnclpakfgnaaGreatDoorZv
import Derived.Test.YtnkjnclpakfgnaaGreatDoorZw
namespace Go.Proofs.YtnkjnclpakfgnaaGreatDoor
namespace X
open Go.RowKit
set_option maxRecDepth 100000

theorem top_at {r n : Int} {all : Bool} (hr : 0 ≤ r ∧ r < 256) (hn : 0 ≤ n ∧ n < 256) {W : World} (hU : U8 W) (h3 : W3 W) :
    Calls Tryz.prog 4 #[.int .u8 r, .int .u8 n, .bool all] W fun e w' => e = .returned (.bool true) ∧ Below W.heap.size W w' := by
  obtain ⟨K, E, H, hO, hKn, hH, hS0⟩ := first_sim hU h3
  obtain ⟨k, hk⟩ : ∃ k : Nat, (k : Int) = 1 + r % 10 := ⟨(1 + r % 10).toNat, by omega⟩
  obtain ⟨m, hm⟩ : ∃ m : Nat, (m : Int) = 1 + n % 24 := ⟨(1 + n % 24).toNat, by omega⟩
  have hk1 : 1 ≤ k := by omega
  have hk2 : k ≤ 10 := by omega
  have hm1 : 1 ≤ m := by omega
  have hm2 : m ≤ 24 := by omega
  obtain ⟨y0, H', hy0, hH', hnew⟩ := newSB_ok (sB_new k hk1 hk2)
  obtain rfl : H' = H := by rw [hH] at hH'; cases hH'; rfl
  refine walk4 hr hn hk hm (fun i hi w => dec_at i hi w)
    (fun w => ∃ E', Sim (IT 1) K E' H' 8 (mF 0) w) (works_ok hH hS0 (n := 0) (N' := 1) (by decide) (by decide))
    (fun db w => SAtO 2 K (sB k 0) db w ∧ W.heap.size ≤ w.heap.size) ?_
    (fun n0 w0 db j w => W.heap.size ≤ n0 ∧ SAtO (2 + j) (K.lock n0 w0) (sB k j) db w) ?_ ?_ ?_ ?_
    (fun db q w => ∃ K' : Keep, Old W K' ∧ StO (4 + k + q) K' (chS k all q) db (vI k all q) w) ?_ ?_ ?_ ?_
  · rintro w ⟨E', hS⟩
    refine (hnew (N := 1) hS (by decide)).mono ?_
    rintro e w1 ⟨db, rfl, ho⟩
    refine ⟨db, rfl, fun w2 hB => (ho w2 hB).mono ?_⟩
    rintro e w3 ⟨rfl, hat⟩
    refine ⟨rfl, ⟨y0, hy0, hat⟩, ?_⟩
    obtain ⟨E2, H2, _, hS2, _⟩ := hat
    exact Nat.le_trans hO.size hS2.size
  · rintro db w3 w0 ⟨hat, hz⟩ hB
    exact ⟨hz, hat.lock hB⟩
  · rintro n0 w0 db j w b ⟨_, hat⟩ h1 h2
    exact hat.kept h1 h2
  · rintro n0 w0 db j w w' ⟨hz, hat⟩ hB
    exact ⟨hz, hat.below hB⟩
  · rintro n0 w0 db j w S ⟨hz, hat⟩ hj hS
    refine (start_step hk1 hk2 hj hat (by omega) hS).mono ?_
    rintro e w' ⟨h1, h2⟩
    refine ⟨h1, hz, ?_⟩
    rw [show (2 + ((j + 1 : Nat) : Int)) = 2 + (j : Int) + 1 from by omega]
    exact h2
  · rintro n0 w0 db w ⟨hz, hat⟩
    refine ⟨K.lock n0 w0, hO.lock hz, ?_⟩
    have := start_re (all := all) hk1 hk2 hat (by omega)
    rw [vI_zero, show (4 + (k : Int) + ((0 : Nat) : Int)) = 2 + ((k + 2 : Nat) : Int) from by omega]
    exact this
  · rintro db q w w' ⟨K', hK, h⟩ hB
    exact ⟨K', hK, h.below hB⟩
  · rintro db q w S ⟨K', hK, h⟩ hq hS
    have hv := vI_le k all q
    refine (round_step hk1 hk2 hq h (by omega) (by omega) (by omega) hS).mono ?_
    rintro e w' ⟨h1, h2⟩
    refine ⟨h1, h2.mono fun w2 h => ⟨K', hK, ?_⟩⟩
    rw [vI_step k all q hk1] at h
    rw [show (4 + (k : Int) + ((q + 1 : Nat) : Int)) = 4 + (k : Int) + (q : Int) + 1 from by omega]
    exact h
  · rintro db w S ⟨K', hK, h⟩ hS
    obtain ⟨i, rfl⟩ : ∃ i, m = i + 1 := ⟨m - 1, by omega⟩
    refine (sel_step hk1 hk2 (by omega) h hS).mono ?_
    rintro e w' ⟨b1, cap1, b2, cap2, x1, x2, ho, rfl, c1, c2, c3, E1, H1, n1, m1, hS1, hs3⟩
    refine ⟨b1, cap1, b2, cap2, x1, x2, ho, rfl, c1, ?_, c3, last_below hU h3 hK hS1 hs3⟩
    rw [c2]
    cases all with
    | true => rw [sum_all]; rfl
    | false => rw [sum_one]; rfl
end X
end Go.Proofs.YtnkjnclpakfgnaaGreatDoor
