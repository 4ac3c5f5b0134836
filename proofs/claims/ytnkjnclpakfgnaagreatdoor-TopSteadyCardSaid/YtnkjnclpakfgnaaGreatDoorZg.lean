/- Texts of the statements; steps of the broom. No conditions. -/
import Derived.Test.YtnkjnclpakfgnaaGreatDoorMa1
import Derived.Test.YtnkjnclpakfgnaaGreatDoorProg
namespace Go.Proofs.YtnkjnclpakfgnaaGreatDoor
namespace X
open Go.RowKit
/-- Each fills one cell. -/
def O3 (x y z : Value) : Prop := x.oneCell' = true ∧ y.oneCell' = true ∧ z.oneCell' = true
/-- Steps of the broom till the end. -/
def Swp (db : Nat) : Nat → World → (World → Prop) → Prop
  | 0, _, _ => False
  | n + 1, w, Q => ∀ w2, Below w.heap.size w w2 → Calls Tryz.prog 18 #[.pointer (some ⟨db, 0, none⟩)] w2 fun e w' => ∃ (c : Nat) (x y z : Value), O3 x y z ∧ e = .returned (.agg #[.int .i64 c, x, y, z]) ∧ if c = 4 then Q w' else Swp db n w' Q

theorem Swp.mono {db : Nat} {Q Q' : World → Prop} : ∀ {n : Nat} {w : World}, Swp db n w Q → (∀ w, Q w → Q' w) → Swp db n w Q'
  | 0, _, h, _ => h
  | n + 1, w, h, hq => by
    intro w2 hB
    refine (h w2 hB).mono ?_
    rintro e w' ⟨c, x, y, z, ho, he, hc⟩
    refine ⟨c, x, y, z, ho, he, ?_⟩
    split
    · rename_i h4; rw [if_pos h4] at hc; exact hq _ hc
    · rename_i h4; rw [if_neg h4] at hc; exact Swp.mono hc hq
theorem bytesN_append (a b : ByteArray) : bytesN (a ++ b) = bytesN a ++ bytesN b := by
  unfold bytesN; rw [ByteArray.data_append, Array.toList_append, List.map_append]
theorem Swp.below {db : Nat} {w w' : World} {Q : World → Prop} {n : Nat} (h : Swp db n w Q) (hB : Below w.heap.size w w') : Swp db n w' Q := by
  cases n with
  | zero => exact h
  | succ n => exact fun w2 hB2 => h w2 (hB.trans (hB2.mono hB.size))
/-- A row in a world that has only more. -/
theorem own_below {w w' : World} {base e size n : Nat} {v : Value} {xs : List Value} (h : w.ownsRow base e size v n xs) (hB : Below w.heap.size w w') : w'.ownsRow base e size v n xs := by
  obtain ⟨hl, h | ⟨g, cap, cur, hv, hb, hh, hn, hm, hz, ht⟩⟩ := h
  · exact ⟨hl, .inl h⟩
  · exact ⟨hl, .inr ⟨g, cap, cur, hv, hb, (hB.block g (lt_of_block hh)).trans hh, hn, hm, hz, ht⟩⟩
/-- The statement of number i at the beginning. -/
def qN (c : Nat) : List Nat := [73, 78, 83, 69, 82, 84, 32, 73, 78, 84, 79, 32, 116, 32, 86, 65, 76, 85, 69, 83, 32, 40] ++ [48 + c] ++ [44, 32, 48, 41]
def qS : Nat → List Nat
  | 0 => [67, 82, 69, 65, 84, 69, 32, 84, 65, 66, 76, 69, 32, 116, 32, 40, 97, 32, 73, 78, 84, 44, 32, 98, 32, 73, 78, 84, 41]
  | 1 => [67, 82, 69, 65, 84, 69, 32, 73, 78, 68, 69, 88, 32, 105, 32, 79, 78, 32, 116, 32, 40, 98, 41]
  | i + 2 => qN i
/-- The statement of round i. -/
def qU : List Nat := [85, 80, 68, 65, 84, 69, 32, 116, 32, 83, 69, 84, 32, 98, 32, 61, 32, 98, 32, 43, 32, 49]
def qW (c : Nat) : List Nat := [85, 80, 68, 65, 84, 69, 32, 116, 32, 83, 69, 84, 32, 98, 32, 61, 32, 98, 32, 43, 32, 49, 32, 87, 72, 69, 82, 69, 32, 97, 32, 61, 32] ++ [48 + c]
/-- Which rows have been changed once more. -/
def chC (k : Nat) (all : Bool) (i : Nat) : Nat := if all then 0 else i % k
def chQ (k : Nat) (all : Bool) (i : Nat) : List Nat := if all then qU else qW (i % k)
def chD (k : Nat) (all : Bool) (i : Nat) : Nat := if all then 1 else if (i + 1) % k = 0 then 1 else 0
end X
end Go.Proofs.YtnkjnclpakfgnaaGreatDoor
