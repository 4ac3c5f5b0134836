/-
  STATES IN BYTES: four of two bits each in a byte; what a byte holds, and what it holds behind a write. Plain numbers; no program. No condition.
-/
import Derived.WalkKit
namespace Go.Proofs.Ytdohkjpapmkhjaa

/-- Byte j of the states L. -/
def byteAt (L : List Nat) (j : Nat) : Nat := L.getD (4 * j) 0 + 4 * L.getD (4 * j + 1) 0 + 16 * L.getD (4 * j + 2) 0 + 64 * L.getD (4 * j + 3) 0

/-- All bytes. -/
def pack (L : List Nat) : List Nat := (List.range ((L.length + 3) / 4)).map (byteAt L)

/-- States are below four. -/
def Four (L : List Nat) : Prop := ∀ i, L.getD i 0 < 4

theorem Four.nil : Four [] := fun i => by simp
theorem getD_snoc (L : List Nat) (s i : Nat) : (L ++ [s]).getD i 0 = if i = L.length then s else L.getD i 0 := by
  simp only [List.getD_eq_getElem?_getD, List.getElem?_append]
  by_cases h : i < L.length
  · rw [if_pos h, if_neg (by omega)]
  · rw [if_neg h]
    by_cases h2 : i = L.length
    · subst h2; simp
    · rw [if_neg h2, List.getElem?_eq_none (by simp; omega), List.getElem?_eq_none (by omega)]
theorem Four.snoc {L : List Nat} (h : Four L) {s : Nat} (hs : s < 4) : Four (L ++ [s]) := fun i => by
  rw [getD_snoc]; split
  · exact hs
  · exact h i
theorem getD_set (L : List Nat) (k s i : Nat) : (L.set k s).getD i 0 = if i = k ∧ k < L.length then s else L.getD i 0 := by
  simp only [List.getD_eq_getElem?_getD, List.getElem?_set]
  by_cases h : k = i
  · subst h
    by_cases h2 : k < L.length
    · simp [h2]
    · simp [h2]
  · have h' : ¬ i = k := fun e => h e.symm
    simp [h, h']
theorem Four.set {L : List Nat} (h : Four L) {s : Nat} (hs : s < 4) (k : Nat) : Four (L.set k s) := fun i => by
  rw [getD_set]; split
  · exact hs
  · exact h i
theorem getD_out (L : List Nat) {i : Nat} (h : L.length ≤ i) : L.getD i 0 = 0 := by
  simp [List.getD_eq_getElem?_getD, List.getElem?_eq_none h]

theorem byteAt_lt {L : List Nat} (h : Four L) (j : Nat) : byteAt L j < 256 := by
  have h0 := h (4 * j); have h1 := h (4 * j + 1); have h2 := h (4 * j + 2); have h3 := h (4 * j + 3)
  unfold byteAt; omega

theorem dig0 (a b c d : Nat) (ha : a < 4) : (a + 4 * b + 16 * c + 64 * d) / 4 ^ 0 % 4 = a := by show (a + 4 * b + 16 * c + 64 * d) / 1 % 4 = a; omega
theorem dig1 (a b c d : Nat) (ha : a < 4) (hb : b < 4) : (a + 4 * b + 16 * c + 64 * d) / 4 ^ 1 % 4 = b := by show (a + 4 * b + 16 * c + 64 * d) / 4 % 4 = b; omega
theorem dig2 (a b c d : Nat) (ha : a < 4) (hb : b < 4) (hc : c < 4) : (a + 4 * b + 16 * c + 64 * d) / 4 ^ 2 % 4 = c := by show (a + 4 * b + 16 * c + 64 * d) / 16 % 4 = c; omega
theorem dig3 (a b c d : Nat) (ha : a < 4) (hb : b < 4) (hc : c < 4) (hd : d < 4) : (a + 4 * b + 16 * c + 64 * d) / 4 ^ 3 % 4 = d := by show (a + 4 * b + 16 * c + 64 * d) / 64 % 4 = d; omega

/-- What state i is, off its byte. -/
theorem byteAt_digit {L : List Nat} (h : Four L) (i : Nat) : byteAt L (i / 4) / 4 ^ (i % 4) % 4 = L.getD i 0 := by
  have h0 := h (4 * (i / 4)); have h1 := h (4 * (i / 4) + 1); have h2 := h (4 * (i / 4) + 2); have h3 := h (4 * (i / 4) + 3)
  have hm : i % 4 = 0 ∨ i % 4 = 1 ∨ i % 4 = 2 ∨ i % 4 = 3 := by omega
  unfold byteAt
  rcases hm with e | e | e | e <;> rw [e]
  · rw [dig0 _ _ _ _ h0]; congr 1; omega
  · rw [dig1 _ _ _ _ h0 h1]; congr 1; omega
  · rw [dig2 _ _ _ _ h0 h1 h2]; congr 1; omega
  · rw [dig3 _ _ _ _ h0 h1 h2 h3]; congr 1; omega

/-- A byte with digit k turned to s. -/
def put4 (b k s : Nat) : Nat := b - (b / 4 ^ k % 4) * 4 ^ k + s * 4 ^ k

theorem put0 (a b c d s : Nat) (ha : a < 4) : put4 (a + 4 * b + 16 * c + 64 * d) 0 s = s + 4 * b + 16 * c + 64 * d := by unfold put4; rw [dig0 _ _ _ _ ha]; show a + 4 * b + 16 * c + 64 * d - a * 1 + s * 1 = _; omega
theorem put1 (a b c d s : Nat) (ha : a < 4) (hb : b < 4) : put4 (a + 4 * b + 16 * c + 64 * d) 1 s = a + 4 * s + 16 * c + 64 * d := by unfold put4; rw [dig1 _ _ _ _ ha hb]; show a + 4 * b + 16 * c + 64 * d - b * 4 + s * 4 = _; omega
theorem put2 (a b c d s : Nat) (ha : a < 4) (hb : b < 4) (hc : c < 4) : put4 (a + 4 * b + 16 * c + 64 * d) 2 s = a + 4 * b + 16 * s + 64 * d := by unfold put4; rw [dig2 _ _ _ _ ha hb hc]; show a + 4 * b + 16 * c + 64 * d - c * 16 + s * 16 = _; omega
theorem put3 (a b c d s : Nat) (ha : a < 4) (hb : b < 4) (hc : c < 4) (hd : d < 4) : put4 (a + 4 * b + 16 * c + 64 * d) 3 s = a + 4 * b + 16 * c + 64 * s := by unfold put4; rw [dig3 _ _ _ _ ha hb hc hd]; show a + 4 * b + 16 * c + 64 * d - d * 64 + s * 64 = _; omega

theorem put4_byteAt {L : List Nat} (h : Four L) (i s : Nat) (hi : i < L.length) :
    put4 (byteAt L (i / 4)) (i % 4) s = byteAt (L.set i s) (i / 4) := by
  have h0 := h (4 * (i / 4)); have h1 := h (4 * (i / 4) + 1); have h2 := h (4 * (i / 4) + 2); have h3 := h (4 * (i / 4) + 3)
  have hm : i % 4 = 0 ∨ i % 4 = 1 ∨ i % 4 = 2 ∨ i % 4 = 3 := by omega
  unfold byteAt
  rw [getD_set, getD_set, getD_set, getD_set]
  rcases hm with e | e | e | e <;> rw [e]
  · rw [put0 _ _ _ _ _ h0, if_pos (by omega), if_neg (by omega), if_neg (by omega), if_neg (by omega)]
  · rw [put1 _ _ _ _ _ h0 h1, if_neg (by omega), if_pos (by omega), if_neg (by omega), if_neg (by omega)]
  · rw [put2 _ _ _ _ _ h0 h1 h2, if_neg (by omega), if_neg (by omega), if_pos (by omega), if_neg (by omega)]
  · rw [put3 _ _ _ _ _ h0 h1 h2 h3, if_neg (by omega), if_neg (by omega), if_neg (by omega), if_pos (by omega)]

theorem byteAt_set_other (L : List Nat) (i s j : Nat) (hj : j ≠ i / 4) : byteAt (L.set i s) j = byteAt L j := by
  unfold byteAt
  rw [getD_set, getD_set, getD_set, getD_set, if_neg (by omega), if_neg (by omega), if_neg (by omega), if_neg (by omega)]

theorem length_pack (L : List Nat) : (pack L).length = (L.length + 3) / 4 := by simp [pack]
theorem getElem?_pack (L : List Nat) (j : Nat) : (pack L)[j]? = if j < (L.length + 3) / 4 then some (byteAt L j) else none := by
  unfold pack
  by_cases h : j < (L.length + 3) / 4
  · simp [h]
  · simp [h]

theorem pack_set {L : List Nat} (h : Four L) (i s : Nat) (hi : i < L.length) :
    pack (L.set i s) = (pack L).set (i / 4) (put4 (byteAt L (i / 4)) (i % 4) s) := by
  apply List.ext_getElem?
  intro j
  rw [getElem?_pack, List.getElem?_set, length_pack, getElem?_pack, List.length_set]
  by_cases e : i / 4 = j
  · subst e
    rw [if_pos rfl, if_pos (by omega), if_pos (by omega), put4_byteAt h i s hi]
  · rw [if_neg e, byteAt_set_other L i s j (fun x => e x.symm)]

theorem byteAt_snoc0 (L : List Nat) (j : Nat) : byteAt (L ++ [0]) j = byteAt L j := by
  have e : ∀ i, (L ++ [0]).getD i 0 = L.getD i 0 := fun i => by
    rw [getD_snoc]; split
    · rename_i h; rw [getD_out L (by omega)]
    · rfl
  unfold byteAt; rw [e, e, e, e]

/-- A state none at the end costs a byte just where the bytes are full. -/
theorem pack_snoc0_full (L : List Nat) (h : L.length % 4 = 0) : pack (L ++ [0]) = pack L ++ [0] := by
  apply List.ext_getElem?
  intro j
  rw [getElem?_pack, byteAt_snoc0, List.length_append, List.length_singleton, List.getElem?_append, length_pack, getElem?_pack]
  by_cases h1 : j < (L.length + 3) / 4
  · rw [if_pos (by omega), if_pos h1, if_pos h1]
  · rw [if_neg h1]
    by_cases h2 : j = (L.length + 3) / 4
    · rw [if_pos (by omega), h2]; simp
      unfold byteAt
      rw [getD_out L (by omega), getD_out L (by omega), getD_out L (by omega), getD_out L (by omega)]
    · rw [if_neg (by omega), List.getElem?_eq_none (by simp; omega)]

theorem pack_snoc0 (L : List Nat) (h : L.length % 4 ≠ 0) : pack (L ++ [0]) = pack L := by
  apply List.ext_getElem?
  intro j
  rw [getElem?_pack, byteAt_snoc0, List.length_append, List.length_singleton, getElem?_pack]
  have : (L.length + 1 + 3) / 4 = (L.length + 3) / 4 := by omega
  rw [this]

theorem set_snoc0 (L : List Nat) (s : Nat) : (L ++ [0]).set L.length s = L ++ [s] := by simp

/-- The walk's own spelling of a digit of a byte. -/
theorem digit_spelt : ∀ b, b < 256 → ∀ k, k < 4 → bits .and .u8 (((b : Nat) : Int) / 2 ^ (2 * k)) 3 = ((b / 4 ^ k % 4 : Nat) : Int) := by decide +kernel
theorem put_spelt : ∀ b, b < 256 → ∀ k, k < 4 → ∀ s, s < 4 →
    bits .or .u8 (bits .andNot .u8 ((b : Nat) : Int) (3 * 2 ^ (2 * k) % 256)) (((s : Nat) : Int) * 2 ^ (2 * k) % 256) = ((put4 b k s : Nat) : Int) := by decide +kernel
end Go.Proofs.Ytdohkjpapmkhjaa
