/- STATES IN BYTES: four of two bits each in a byte; what a byte holds, and what it holds behind a write. Plain numbers; no program. · THE PROGRAM's LOG (package clog): what New, Next, State, Commit, Abort, Begin, All come to, of any log in memory, a nil one too. 'LogAt c k w p f L': at block p of w there lies a log whose first number is f and whose states are L; its blocks are k's by c. · SNAPSHOTS (package snap): what Take, Sees, Visible, Free, Horizon, Dead come to, of any log and any snapshot in memory. · SNAPSHOTS: snap.Take, of any log: who runs but its own, the least of those, how far numbers had come. · NAMES (book.Name, lapidaryref11.Name, lapidarylaw11.few): what is a name, byte by byte; both sides tell the same of any text. · Columns of tables: a slice of names and kinds; slices.Clone of it. No conditions. -/
import Derived.WalkKit
import Derived.Test.YtnkjnclpakfgnaaGreatDoorProg
import Derived.Test.YtnkjnclpakfgnaaGreatDoorMa0
import Derived.Test.YtnkjnclpakfgnaaGreatDoorMa1
namespace Go.Proofs.YtnkjnclpakfgnaaGreatDoor

/-- Byte j of the states L. -/
def byteAt (L : List Nat) (j : Nat) : Nat := L.getD (4 * j) 0 + 4 * L.getD (4 * j + 1) 0 + 16 * L.getD (4 * j + 2) 0 + 64 * L.getD (4 * j + 3) 0

/-- All bytes. -/
def pack (L : List Nat) : List Nat := (List.range ((L.length + 3) / 4)).map (byteAt L)

/-- States are below four. -/
def Four (L : List Nat) : Prop := ∀ i, L.getD i 0 < 4

theorem Four.nil : Four [] := fun i => by simp
theorem getD_snoc (L : List Nat) (s i : Nat) : (L ++ [s]).getD i 0 = if i = L.length then s else L.getD i 0 := by
  simp only [List.getD_eq_getElem?_getD, List.getElem?_append]
  by_cases h : i < L.length
  · rw [if_pos h, if_neg (by omega)]
  · rw [if_neg h]
    by_cases h2 : i = L.length
    · subst h2; simp
    · rw [if_neg h2, List.getElem?_eq_none (by simp; omega), List.getElem?_eq_none (by omega)]
theorem Four.snoc {L : List Nat} (h : Four L) {s : Nat} (hs : s < 4) : Four (L ++ [s]) := fun i => by
  rw [getD_snoc]; split
  · exact hs
  · exact h i
theorem getD_set (L : List Nat) (k s i : Nat) : (L.set k s).getD i 0 = if i = k ∧ k < L.length then s else L.getD i 0 := by
  simp only [List.getD_eq_getElem?_getD, List.getElem?_set]
  by_cases h : k = i
  · subst h
    by_cases h2 : k < L.length
    · simp [h2]
    · simp [h2]
  · have h' : ¬ i = k := fun e => h e.symm
    simp [h, h']
theorem Four.set {L : List Nat} (h : Four L) {s : Nat} (hs : s < 4) (k : Nat) : Four (L.set k s) := fun i => by
  rw [getD_set]; split
  · exact hs
  · exact h i
theorem getD_out (L : List Nat) {i : Nat} (h : L.length ≤ i) : L.getD i 0 = 0 := by
  simp [List.getD_eq_getElem?_getD, List.getElem?_eq_none h]

theorem byteAt_lt {L : List Nat} (h : Four L) (j : Nat) : byteAt L j < 256 := by
  have h0 := h (4 * j); have h1 := h (4 * j + 1); have h2 := h (4 * j + 2); have h3 := h (4 * j + 3)
  unfold byteAt; omega

theorem dig0 (a b c d : Nat) (ha : a < 4) : (a + 4 * b + 16 * c + 64 * d) / 4 ^ 0 % 4 = a := by show (a + 4 * b + 16 * c + 64 * d) / 1 % 4 = a; omega
theorem dig1 (a b c d : Nat) (ha : a < 4) (hb : b < 4) : (a + 4 * b + 16 * c + 64 * d) / 4 ^ 1 % 4 = b := by show (a + 4 * b + 16 * c + 64 * d) / 4 % 4 = b; omega
theorem dig2 (a b c d : Nat) (ha : a < 4) (hb : b < 4) (hc : c < 4) : (a + 4 * b + 16 * c + 64 * d) / 4 ^ 2 % 4 = c := by show (a + 4 * b + 16 * c + 64 * d) / 16 % 4 = c; omega
theorem dig3 (a b c d : Nat) (ha : a < 4) (hb : b < 4) (hc : c < 4) (hd : d < 4) : (a + 4 * b + 16 * c + 64 * d) / 4 ^ 3 % 4 = d := by show (a + 4 * b + 16 * c + 64 * d) / 64 % 4 = d; omega

/-- What state i is, off its byte. -/
theorem byteAt_digit {L : List Nat} (h : Four L) (i : Nat) : byteAt L (i / 4) / 4 ^ (i % 4) % 4 = L.getD i 0 := by
  have h0 := h (4 * (i / 4)); have h1 := h (4 * (i / 4) + 1); have h2 := h (4 * (i / 4) + 2); have h3 := h (4 * (i / 4) + 3)
  have hm : i % 4 = 0 ∨ i % 4 = 1 ∨ i % 4 = 2 ∨ i % 4 = 3 := by omega
  unfold byteAt
  rcases hm with e | e | e | e <;> rw [e]
  · rw [dig0 _ _ _ _ h0]; congr 1; omega
  · rw [dig1 _ _ _ _ h0 h1]; congr 1; omega
  · rw [dig2 _ _ _ _ h0 h1 h2]; congr 1; omega
  · rw [dig3 _ _ _ _ h0 h1 h2 h3]; congr 1; omega

/-- A byte with digit k turned to s. -/
def put4 (b k s : Nat) : Nat := b - (b / 4 ^ k % 4) * 4 ^ k + s * 4 ^ k

theorem put0 (a b c d s : Nat) (ha : a < 4) : put4 (a + 4 * b + 16 * c + 64 * d) 0 s = s + 4 * b + 16 * c + 64 * d := by unfold put4; rw [dig0 _ _ _ _ ha]; show a + 4 * b + 16 * c + 64 * d - a * 1 + s * 1 = _; omega
theorem put1 (a b c d s : Nat) (ha : a < 4) (hb : b < 4) : put4 (a + 4 * b + 16 * c + 64 * d) 1 s = a + 4 * s + 16 * c + 64 * d := by unfold put4; rw [dig1 _ _ _ _ ha hb]; show a + 4 * b + 16 * c + 64 * d - b * 4 + s * 4 = _; omega
theorem put2 (a b c d s : Nat) (ha : a < 4) (hb : b < 4) (hc : c < 4) : put4 (a + 4 * b + 16 * c + 64 * d) 2 s = a + 4 * b + 16 * s + 64 * d := by unfold put4; rw [dig2 _ _ _ _ ha hb hc]; show a + 4 * b + 16 * c + 64 * d - c * 16 + s * 16 = _; omega
theorem put3 (a b c d s : Nat) (ha : a < 4) (hb : b < 4) (hc : c < 4) (hd : d < 4) : put4 (a + 4 * b + 16 * c + 64 * d) 3 s = a + 4 * b + 16 * c + 64 * s := by unfold put4; rw [dig3 _ _ _ _ ha hb hc hd]; show a + 4 * b + 16 * c + 64 * d - d * 64 + s * 64 = _; omega

theorem put4_byteAt {L : List Nat} (h : Four L) (i s : Nat) (hi : i < L.length) :
    put4 (byteAt L (i / 4)) (i % 4) s = byteAt (L.set i s) (i / 4) := by
  have h0 := h (4 * (i / 4)); have h1 := h (4 * (i / 4) + 1); have h2 := h (4 * (i / 4) + 2); have h3 := h (4 * (i / 4) + 3)
  have hm : i % 4 = 0 ∨ i % 4 = 1 ∨ i % 4 = 2 ∨ i % 4 = 3 := by omega
  unfold byteAt
  rw [getD_set, getD_set, getD_set, getD_set]
  rcases hm with e | e | e | e <;> rw [e]
  · rw [put0 _ _ _ _ _ h0, if_pos (by omega), if_neg (by omega), if_neg (by omega), if_neg (by omega)]
  · rw [put1 _ _ _ _ _ h0 h1, if_neg (by omega), if_pos (by omega), if_neg (by omega), if_neg (by omega)]
  · rw [put2 _ _ _ _ _ h0 h1 h2, if_neg (by omega), if_neg (by omega), if_pos (by omega), if_neg (by omega)]
  · rw [put3 _ _ _ _ _ h0 h1 h2 h3, if_neg (by omega), if_neg (by omega), if_neg (by omega), if_pos (by omega)]

theorem byteAt_set_other (L : List Nat) (i s j : Nat) (hj : j ≠ i / 4) : byteAt (L.set i s) j = byteAt L j := by
  unfold byteAt
  rw [getD_set, getD_set, getD_set, getD_set, if_neg (by omega), if_neg (by omega), if_neg (by omega), if_neg (by omega)]

theorem length_pack (L : List Nat) : (pack L).length = (L.length + 3) / 4 := by simp [pack]
theorem getElem?_pack (L : List Nat) (j : Nat) : (pack L)[j]? = if j < (L.length + 3) / 4 then some (byteAt L j) else none := by
  unfold pack
  by_cases h : j < (L.length + 3) / 4
  · simp [h]
  · simp [h]

theorem pack_set {L : List Nat} (h : Four L) (i s : Nat) (hi : i < L.length) :
    pack (L.set i s) = (pack L).set (i / 4) (put4 (byteAt L (i / 4)) (i % 4) s) := by
  apply List.ext_getElem?
  intro j
  rw [getElem?_pack, List.getElem?_set, length_pack, getElem?_pack, List.length_set]
  by_cases e : i / 4 = j
  · subst e
    rw [if_pos rfl, if_pos (by omega), if_pos (by omega), put4_byteAt h i s hi]
  · rw [if_neg e, byteAt_set_other L i s j (fun x => e x.symm)]

theorem byteAt_snoc0 (L : List Nat) (j : Nat) : byteAt (L ++ [0]) j = byteAt L j := by
  have e : ∀ i, (L ++ [0]).getD i 0 = L.getD i 0 := fun i => by
    rw [getD_snoc]; split
    · rename_i h; rw [getD_out L (by omega)]
    · rfl
  unfold byteAt; rw [e, e, e, e]

/-- A state none at the end costs a byte just where the bytes are full. -/
theorem pack_snoc0_full (L : List Nat) (h : L.length % 4 = 0) : pack (L ++ [0]) = pack L ++ [0] := by
  apply List.ext_getElem?
  intro j
  rw [getElem?_pack, byteAt_snoc0, List.length_append, List.length_singleton, List.getElem?_append, length_pack, getElem?_pack]
  by_cases h1 : j < (L.length + 3) / 4
  · rw [if_pos (by omega), if_pos h1, if_pos h1]
  · rw [if_neg h1]
    by_cases h2 : j = (L.length + 3) / 4
    · rw [if_pos (by omega), h2]; simp
      unfold byteAt
      rw [getD_out L (by omega), getD_out L (by omega), getD_out L (by omega), getD_out L (by omega)]
    · rw [if_neg (by omega), List.getElem?_eq_none (by simp; omega)]

theorem pack_snoc0 (L : List Nat) (h : L.length % 4 ≠ 0) : pack (L ++ [0]) = pack L := by
  apply List.ext_getElem?
  intro j
  rw [getElem?_pack, byteAt_snoc0, List.length_append, List.length_singleton, getElem?_pack]
  have : (L.length + 1 + 3) / 4 = (L.length + 3) / 4 := by omega
  rw [this]

theorem set_snoc0 (L : List Nat) (s : Nat) : (L ++ [0]).set L.length s = L ++ [s] := by simp

/-- The walk's own spelling of a digit of a byte. -/
theorem digit_spelt : ∀ b, b < 256 → ∀ k, k < 4 → bits .and .u8 (((b : Nat) : Int) / 2 ^ (2 * k)) 3 = ((b / 4 ^ k % 4 : Nat) : Int) := by decide +kernel
theorem put_spelt : ∀ b, b < 256 → ∀ k, k < 4 → ∀ s, s < 4 →
    bits .or .u8 (bits .andNot .u8 ((b : Nat) : Int) (3 * 2 ^ (2 * k) % 256)) (((s : Nat) : Int) * 2 ^ (2 * k) % 256) = ((put4 b k s : Nat) : Int) := by decide +kernel
end Go.Proofs.YtnkjnclpakfgnaaGreatDoor
namespace Go.Proofs.YtnkjnclpakfgnaaGreatDoor
open Go.RowKit

theorem Tryz.info5 : (Tryz.prog.info? 5).map (fun i => (i.zero, i.size, i.bytes)) = some (some (.int .u8 0), 1, 1) := by kernel_rfl
theorem Tryz.info40 : (Tryz.prog.info? 40).map (fun i => (i.zero, i.size, i.bytes)) = some (some (.int .u64 0), 1, 8) := by kernel_rfl

/-- What became of transaction x. -/
def stt (f : Int) (L : List Nat) (x : Int) : Nat := if x < f then 0 else L.getD (x - f).toNat 0

theorem stt_lo {f x : Int} {L : List Nat} (h : x < f) : stt f L x = 0 := by simp [stt, h]
theorem stt_hi {f x : Int} {L : List Nat} (h : f + L.length ≤ x) : stt f L x = 0 := by
  unfold stt; rw [if_neg (by omega), getD_out L (by omega)]
theorem stt_in {f x : Int} {L : List Nat} (h : f ≤ x) : stt f L x = L.getD (x - f).toNat 0 := by
  unfold stt; rw [if_neg (by omega)]

def u8s (l : List Nat) : List Value := l.map fun (b : Nat) => Value.int .u8 (b : Int)

def LogAt (c : Nat → Nat) (k : Nat) (w : World) (p : Nat) (f : Int) (L : List Nat) : Prop :=
  1 ≤ f ∧ f + L.length ≤ 1099511627777 ∧ Four L ∧ c p = k ∧
    ∃ v, w.heap[p]? = some (.cells #[.int .u64 f, .int .u64 L.length, v] 170 (0, 0)) ∧ w.ownsRow 0 5 1 v ((L.length + 3) / 4) (u8s (pack L)) ∧
      ∀ g, v.ownBlock = some g → c g = k ∧ g ≠ p

section
variable {c : Nat → Nat} {k p : Nat} {w w' : World} {f : Int} {L : List Nat}

theorem LogAt.upd {S : Nat → Prop} (h : LogAt c k w p f L) (u : Upd S w w') (hs : ∀ b, c b = k → ¬ S b) : LogAt c k w' p f L := by
  obtain ⟨h1, h2, h3, h4, v, h5, h6, h7⟩ := h
  exact ⟨h1, h2, h3, h4, v, u.heap h5 (hs p h4), ownsRow_upd h6 u (fun b hb => hs b (h7 b hb).1), h7⟩

theorem LogAt.same (h : LogAt c k w p f L) (u : Below w.heap.size w w') : LogAt c k w' p f L := h.upd (S := fun _ => False) (Upd.same u) (fun _ _ x => x)
theorem LogAt.drewN (h : LogAt c k w p f L) (n : Nat) : LogAt c k (w.drewN n) p f L := h.upd (S := fun _ => False) (Upd.of_drewN n) (fun _ _ x => x)
theorem LogAt.lt (h : LogAt c k w p f L) : p < w.heap.size := by
  obtain ⟨h1, h2, h3, h4, v, h5, h6, h7⟩ := h; exact lt_of_block h5

/-- Another colouring, the same on old blocks. -/
theorem LogAt.recol {c' : Nat → Nat} (h : LogAt c k w p f L) (hc : ∀ b, b < w.heap.size → c' b = c b) : LogAt c' k w p f L := by
  obtain ⟨h1, h2, h3, h4, v, h5, h6, h7⟩ := h
  refine ⟨h1, h2, h3, (hc p (lt_of_block h5)).trans h4, v, h5, h6, fun g hg => ⟨?_, (h7 g hg).2⟩⟩
  rw [hc g (World.ownsRow.lt h6 g hg).2]; exact (h7 g hg).1

theorem next_cells (p : Nat) (f n : Int) (w : World) (h0 : 0 ≤ f) (h1 : 0 ≤ n) (h2 : f + n ≤ 9223372036854775807)
    (c0 : w.cell? ⟨p, 0, none⟩ = some (.int .u64 f)) (c1 : w.cell? ⟨p, 1, none⟩ = some (.int .u64 n)) :
    Calls Tryz.prog 97 #[.pointer (some ⟨p, 0, none⟩)] w fun e w' => e = .returned (.int .u64 (f + n)) ∧ ∃ k, w' = w.drewN k := by
  go_enter Tryz.func97, Tryz.ntmps97
  go_wp2
  go_quiet (fail)
  go_wp2
  go_ret
  exact ⟨rfl, _, rfl⟩

/-- clog.Next. -/
theorem next_at (h : LogAt c k w p f L) :
    Calls Tryz.prog 97 #[.pointer (some ⟨p, 0, none⟩)] w fun e w' => e = .returned (.int .u64 (f + L.length)) ∧ ∃ n, w' = w.drewN n := by
  obtain ⟨h1, h2, h3, h4, v, h5, h6, h7⟩ := h
  exact next_cells p f L.length w (by omega) (by omega) (by omega) (cell_of_block h5 rfl) (cell_of_block h5 rfl)

theorem state_lo (p : Nat) (f x : Int) (w : World) (hx : x < f)
    (c0 : w.cell? ⟨p, 0, none⟩ = some (.int .u64 f)) :
    Calls Tryz.prog 68 #[.pointer (some ⟨p, 0, none⟩), .int .u64 x] w fun e w' => e = .returned (.int .i64 0) ∧ ∃ k, w' = w.drewN k := by
  have hd : decide (x < f) = true := by simp; omega
  go_enter Tryz.func68, Tryz.ntmps68
  go_wp2
  go_ret
  exact ⟨rfl, 0, rfl⟩

theorem state_hi (p : Nat) (f n x : Int) (w : World) (h0 : 0 ≤ f) (h1 : 0 ≤ n) (h2 : f + n ≤ 9223372036854775807) (hx : f + n ≤ x)
    (c0 : w.cell? ⟨p, 0, none⟩ = some (.int .u64 f)) (c1 : w.cell? ⟨p, 1, none⟩ = some (.int .u64 n)) :
    Calls Tryz.prog 68 #[.pointer (some ⟨p, 0, none⟩), .int .u64 x] w fun e w' => e = .returned (.int .i64 0) ∧ ∃ k, w' = w.drewN k := by
  have hd : decide (x < f) = false := by simp; omega
  have hd2 : decide (f + n ≤ x) = true := by simp; omega
  go_enter Tryz.func68, Tryz.ntmps68
  go_wp2
  go_quiet ((go_at_call 97; exact Calls.quiet_of_same (next_cells _ _ _ _ h0 h1 h2 (by assumption) (by assumption))))
  go_wp2
  go_ret
  exact ⟨rfl, _, rfl⟩

theorem state_in (p g : Nat) (f n x b : Int) (len cap : Nat) (w : World) (h0 : 0 ≤ f) (h1 : 0 ≤ n) (h2 : f + n ≤ 9223372036854775807)
    (hx : f ≤ x) (hx2 : x < f + n) (hn : n ≤ 4 * len)
    (c0 : w.cell? ⟨p, 0, none⟩ = some (.int .u64 f)) (c1 : w.cell? ⟨p, 1, none⟩ = some (.int .u64 n))
    (c2 : w.cell? ⟨p, 2, none⟩ = some (.slice (some ⟨g, 0, none⟩) len cap))
    (c3 : w.cell? ⟨g, ((x - f) / 4).toNat, none⟩ = some (.int .u8 b)) :
    Calls Tryz.prog 68 #[.pointer (some ⟨p, 0, none⟩), .int .u64 x] w fun e w' =>
      e = .returned (.int .i64 (wrap64 (bits .and .u8 (b / 2 ^ (2 * ((x - f) % 4)).toNat) 3))) ∧ ∃ k, w' = w.drewN k := by
  have hd : decide (x < f) = false := by simp; omega
  have hd2 : decide (f + n ≤ x) = false := by simp; omega
  go_enter Tryz.func68, Tryz.ntmps68
  go_wp2
  go_quiet ((go_at_call 97; exact Calls.quiet_of_same (next_cells _ _ _ _ h0 h1 h2 (by assumption) (by assumption))))
  go_wp2
  go_ret
  exact ⟨rfl, _, rfl⟩

theorem digit_read (b : Nat) (hb : b < 256) (i : Int) (hi : 0 ≤ i) : wrap64 (bits .and .u8 ((b : Int) / 2 ^ (2 * (i % 4)).toNat) 3) = ((b / 4 ^ (i.toNat % 4) % 4 : Nat) : Int) := by
  obtain ⟨n, rfl⟩ := Int.eq_ofNat_of_zero_le hi
  have e : (2 * ((n : Int) % 4)).toNat = 2 * (n % 4) := by omega
  rw [e, Int.toNat_natCast, digit_spelt b hb (n % 4) (by omega)]
  exact IntWalk.wrap64_in _ (by omega)

/-- The byte that holds state i, in memory. -/
theorem LogAt.byte (h : LogAt c k w p f L) {i : Nat} (hi : i < L.length) :
    ∃ g cap, w.cell? ⟨p, 2, none⟩ = some (.slice (some ⟨g, 0, none⟩) ((L.length + 3) / 4) cap) ∧ w.cell? ⟨g, i / 4, none⟩ = some (.int .u8 (byteAt L (i / 4) : Nat)) ∧ w.frozen? ⟨g, i / 4, none⟩ = false ∧ c g = k ∧ g ≠ p := by
  obtain ⟨h1, h2, h3, h4, v, h5, h6, h7⟩ := h
  have hj : (u8s (pack L))[i / 4]? = some (.int .u8 (byteAt L (i / 4) : Nat)) := by
    simp only [u8s, List.getElem?_map, getElem?_pack]
    rw [if_pos (by omega)]; rfl
  obtain ⟨g, cap, rfl, hc, hf, _, _⟩ := ownsRow_cell1 h6 hj
  exact ⟨g, cap, cell_of_block h5 rfl, hc, hf, h7 g rfl⟩

/-- clog.State. -/
theorem state_at (h : LogAt c k w p f L) (x : Int) :
    Calls Tryz.prog 68 #[.pointer (some ⟨p, 0, none⟩), .int .u64 x] w fun e w' => e = .returned (.int .i64 (stt f L x)) ∧ ∃ n, w' = w.drewN n := by
  have hh := h
  obtain ⟨h1, h2, h3, h4, v, h5, h6, h7⟩ := h
  by_cases hx : x < f
  · rw [stt_lo hx]; exact state_lo p f x w hx (cell_of_block h5 rfl)
  by_cases hx2 : f + L.length ≤ x
  · rw [stt_hi hx2]; exact state_hi p f L.length x w (by omega) (by omega) (by omega) hx2 (cell_of_block h5 rfl) (cell_of_block h5 rfl)
  obtain ⟨i, hi⟩ := Int.eq_ofNat_of_zero_le (show 0 ≤ x - f by omega)
  obtain ⟨g, cap, hc2, hc3, _, _, _⟩ := hh.byte (i := i) (by omega)
  have hb := byteAt_lt h3 (i / 4)
  have hq : ((x - f) / 4).toNat = i / 4 := by omega
  refine (state_in p g f L.length x (byteAt L (i / 4) : Nat) _ cap w (by omega) (by omega) (by omega) (by omega) (by omega) (by omega) (cell_of_block h5 rfl) (cell_of_block h5 rfl) hc2 (by rw [hq]; exact hc3)).mono ?_
  rintro e w' ⟨rfl, hw⟩
  refine ⟨?_, hw⟩
  rw [digit_read _ hb _ (by omega), stt_in (by omega), hi, Int.toNat_natCast, byteAt_digit h3]

/-! ### writing -/
theorem set_cells (p g : Nat) (f x b s : Int) (len cap : Nat) (w : World) (h0 : 0 ≤ f) (hx : f ≤ x) (hx2 : x ≤ 9223372036854775807)
    (hn : (x - f) / 4 < len)
    (c0 : w.cell? ⟨p, 0, none⟩ = some (.int .u64 f))
    (c2 : w.cell? ⟨p, 2, none⟩ = some (.slice (some ⟨g, 0, none⟩) len cap))
    (c3 : w.cell? ⟨g, ((x - f) / 4).toNat, none⟩ = some (.int .u8 b)) (f3 : w.frozen? ⟨g, ((x - f) / 4).toNat, none⟩ = false) :
    Calls Tryz.prog 173 #[.pointer (some ⟨p, 0, none⟩), .int .u64 x, .int .u8 s] w fun e w' => e = .returned (.tuple #[]) ∧
      w' = w.setCell ⟨g, ((x - f) / 4).toNat, none⟩ (.int .u8 (bits .or .u8 (bits .andNot .u8 b (3 * 2 ^ (2 * ((x - f) % 4)).toNat % 256)) (s * 2 ^ (2 * ((x - f) % 4)).toNat % 256))) := by
  go_enter Tryz.func173, Tryz.ntmps173
  go_wp2
  go_end0
  exact ⟨rfl, rfl⟩

theorem digit_write (b : Nat) (hb : b < 256) (i s : Nat) (hs : s < 4) :
    bits .or .u8 (bits .andNot .u8 (b : Int) (3 * 2 ^ (2 * ((i : Int) % 4)).toNat % 256)) ((s : Int) * 2 ^ (2 * ((i : Int) % 4)).toNat % 256) = ((put4 b (i % 4) s : Nat) : Int) := by
  have e : (2 * ((i : Int) % 4)).toNat = 2 * (i % 4) := by omega
  rw [e]; exact put_spelt b hb (i % 4) (by omega) s hs

/-- clog.set, of a number that has begun. -/
theorem set_at (h : LogAt c k w p f L) (x : Int) (i s : Nat) (hs : s < 4) (hi : i < L.length) (hx : x = f + i) :
    Calls Tryz.prog 173 #[.pointer (some ⟨p, 0, none⟩), .int .u64 x, .int .u8 s] w fun e w' => e = .returned (.tuple #[]) ∧ LogAt c k w' p f (L.set i s) ∧ Upd (fun b => c b = k) w w' := by
  have hh := h
  obtain ⟨h1, h2, h3, h4, v, h5, h6, h7⟩ := h
  obtain ⟨g, cap, hc2, hc3, hf3, hg, hgp⟩ := hh.byte (i := i) hi
  have hb := byteAt_lt h3 (i / 4)
  have hxi : x - f = i := by omega
  have hq : ((x - f) / 4).toNat = i / 4 := by omega
  refine (set_cells p g f x (byteAt L (i / 4) : Nat) s _ cap w (by omega) (by omega) (by omega) (by omega) (cell_of_block h5 rfl) hc2 (by rw [hq]; exact hc3) (by rw [hq]; exact hf3)).mono ?_
  rintro e w' ⟨rfl, rfl⟩
  rw [hq, hxi, digit_write _ hb i s hs]
  have hv : v = .slice (some ⟨g, 0, none⟩) ((L.length + 3) / 4) cap := by
    have := cell_of_block h5 (i := 2) rfl
    exact Option.some.inj (this.symm.trans hc2)
  subst hv
  refine ⟨rfl, ⟨h1, by rw [List.length_set]; exact h2, h3.set hs i, h4, _, ?_, ?_, h7⟩, (Upd.refl _ w).setCell _ (fun _ => hg)⟩
  · rw [List.length_set]; exact block_setCell_other h5 (fun e => hgp e.symm) _
  · rw [List.length_set]
    have hrow := ownsRow_set1 h6 (j := i / 4) (.int .u8 (put4 (byteAt L (i / 4)) (i % 4) s : Nat))
    have e : (u8s (pack L)).set (i / 4) (.int .u8 (put4 (byteAt L (i / 4)) (i % 4) s : Nat)) = u8s (pack (L.set i s)) := by
      rw [pack_set h3 i s hi]; simp [u8s, List.map_set]
    rw [← e]; exact hrow

/-- The states behind an end: of one that runs. -/
def ended (f : Int) (L : List Nat) (x : Int) (s : Nat) : List Nat := if stt f L x = 1 then L.set (x - f).toNat s else L
/-- What an end answers: 0 fine, 15 none such. -/
def endErr (f : Int) (L : List Nat) (x : Int) : Int := if stt f L x = 1 then 0 else 15

/-- clog.end. -/
theorem end_at (h : LogAt c k w p f L) (x : Int) (s : Nat) (hs : s < 4) :
    Calls Tryz.prog 128 #[.pointer (some ⟨p, 0, none⟩), .int .u64 x, .int .u8 s] w fun e w' => e = .returned (.int .i64 (endErr f L x)) ∧ LogAt c k w' p f (ended f L x s) ∧ Upd (fun b => c b = k) w w' := by
  by_cases hr : stt f L x = 1
  · have hb : (((stt f L x : Nat) : Int) != 1) = false := by rw [hr]; rfl
    have he : endErr f L x = 0 := by simp [endErr, hr]
    have hL : ended f L x s = L.set (x - f).toNat s := by simp [ended, hr]
    have hlo : f ≤ x := by
      by_cases hx : x < f
      · rw [stt_lo hx] at hr; omega
      · omega
    have hhi : x < f + L.length := by
      by_cases hx : f + L.length ≤ x
      · rw [stt_hi hx] at hr; omega
      · omega
    rw [he, hL]
    have HR := Lib.hid hr; clear hr he hL
    go_enter Tryz.func128, Tryz.ntmps128
    go_wp2_with (first | (go_at_call 68; refine (state_at h x).mono ?_; rintro e w1 ⟨rfl, n, rfl⟩) | (go_at_call 173; refine (set_at (h.drewN n) x (x - f).toNat s hs (by omega) (by omega)).mono ?_; rintro e w2 ⟨rfl, hl, hu⟩))
    go_ret
    exact ⟨rfl, hl, (Upd.of_drewN n).trans hu⟩
  · have hb : (((stt f L x : Nat) : Int) != 1) = true := by rw [bne_iff_ne]; omega
    have he : endErr f L x = 15 := by simp [endErr, hr]
    have hL : ended f L x s = L := by simp [ended, hr]
    rw [he, hL]
    clear hr he hL
    go_enter Tryz.func128, Tryz.ntmps128
    go_wp2_with (first | (go_at_call 68; refine (state_at h x).mono ?_; rintro e w1 ⟨rfl, n, rfl⟩))
    go_ret
    exact ⟨rfl, h.drewN n, Upd.of_drewN n⟩

/-- clog.Commit. -/
theorem commit_at (h : LogAt c k w p f L) (x : Int) :
    Calls Tryz.prog 83 #[.pointer (some ⟨p, 0, none⟩), .int .u64 x] w fun e w' => e = .returned (.int .i64 (endErr f L x)) ∧ LogAt c k w' p f (ended f L x 2) ∧ Upd (fun b => c b = k) w w' := by
  go_enter Tryz.func83, Tryz.ntmps83
  go_wp2_with (go_at_call 128; refine (end_at h x 2 (by omega)).mono ?_; rintro e w1 ⟨rfl, hl, hu⟩)
  go_ret
  exact ⟨rfl, hl, hu⟩
/-- The count raised, no byte wanted. -/
theorem LogAt.bump (h : LogAt c k w p f L) (hf : f + L.length ≤ 1099511627776) (hm : L.length % 4 ≠ 0) :
    LogAt c k (w.setCell ⟨p, 1, none⟩ (.int .u64 (L.length + 1))) p f (L ++ [0]) := by
  obtain ⟨h1, h2, h3, h4, v, h5, h6, h7⟩ := h
  refine ⟨h1, by simp; omega, h3.snoc (by omega), h4, v, ?_, ?_, h7⟩
  · rw [block_setCell h5]; simp
  · rw [pack_snoc0 L hm, List.length_append, List.length_singleton, show (L.length + 1 + 3) / 4 = (L.length + 3) / 4 by omega]
    exact ownsRow_upd (S := fun b => b = p) h6 ((Upd.refl _ w).setCell _ (fun _ => rfl)) (fun b hb => (h7 b hb).2)

set_option maxHeartbeats 400000 in
theorem begin_room (h : LogAt c k w p f L) (hf : f + L.length ≤ 1099511627776) (hm : L.length % 4 ≠ 0) :
    Calls Tryz.prog 111 #[.pointer (some ⟨p, 0, none⟩)] w fun e w' => e = .returned (.tuple #[.int .u64 (f + L.length), .int .i64 0]) ∧ LogAt c k w' p f (L ++ [1]) ∧ Upd (fun b => c b = k) w w' := by
  have hm1 : ((L.length : Int) % 4 == 0) = false := by rw [beq_eq_false_iff_ne]; omega
  obtain ⟨h1, h4, hc1, hf1⟩ : 1 ≤ f ∧ c p = k ∧ w.cell? ⟨p, 1, none⟩ = some (.int .u64 L.length) ∧ w.frozen? ⟨p, 1, none⟩ = false := by
    obtain ⟨h1, h2, h3, h4, v, h5, h6, h7⟩ := h; exact ⟨h1, h4, cell_of_block h5 rfl, free_of_block h5⟩
  have hl : (L.length : Int) ≤ 1099511627776 := by omega
  have H4 := Lib.hid h4; clear h4
  go_enter Tryz.func111, Tryz.ntmps111
  go_wp2_with (first
    | (go_at_call 97; refine (next_at (by first | exact h | exact h.drewN _)).mono ?_; rintro e w1 ⟨rfl, n, rfl⟩)
    | (go_at_call 173; refine (set_at (LogAt.bump (h.drewN _) hf hm) _ L.length 1 (by omega) (by simp) rfl).mono ?_; rintro e w1 ⟨rfl, hl2, hu⟩))
  go_ret2
  refine ⟨rfl, by rw [set_snoc0] at hl2; exact hl2, Upd.trans ?_ hu⟩
  exact (Upd.of_drewN _).setCell _ (fun _ => H4.out)

/-- The count raised, and a byte more. -/
theorem LogAt.bump_new (h : LogAt c k w p f L) (hf : f + L.length ≤ 1099511627776) (hm : L.length % 4 = 0) {v v' : Value} {w1 : World}
    (hv : w.cell? ⟨p, 2, none⟩ = some v) (hown : w1.ownsRow 0 5 1 v' ((L.length + 3) / 4 + 1) (u8s (pack L) ++ [.int .u8 0])) (hg : Upd (fun b => v.ownBlock = some b) w w1)
    {c' : Nat → Nat} (hc : ∀ b, b < w.heap.size → c' b = c b) (hn : ∀ g, v'.ownBlock = some g → c' g = k ∧ g ≠ p) :
    LogAt c' k ((w1.setCell ⟨p, 2, none⟩ v').setCell ⟨p, 1, none⟩ (.int .u64 (L.length + 1))) p f (L ++ [0]) := by
  obtain ⟨h1, h2, h3, h4, v0, h5, h6, h7⟩ := h
  have e0 : v0 = v := by
    have := cell_of_block h5 (i := 2) rfl
    exact Option.some.inj (this.symm.trans hv)
  subst e0
  have h5' := hg.heap h5 (fun e => (h7 p e).2 rfl)
  refine ⟨h1, by simp; omega, h3.snoc (by omega), (hc p (lt_of_block h5)).trans h4, v', ?_, ?_, hn⟩
  · rw [block_setCell (block_setCell h5' v') _]; simp
  · have e1 : (L ++ [0]).length = L.length + 1 := by simp
    rw [pack_snoc0_full L hm, e1, show (L.length + 1 + 3) / 4 = (L.length + 3) / 4 + 1 by omega]
    have e : u8s (pack L ++ [0]) = u8s (pack L) ++ [.int .u8 0] := by simp [u8s]
    rw [e]
    have hu : Upd (fun b => b = p) w1 ((w1.setCell ⟨p, 2, none⟩ v').setCell ⟨p, 1, none⟩ (.int .u64 (L.length + 1))) :=
      Upd.setCell (a := ⟨p, 1, none⟩) (Upd.setCell (a := ⟨p, 2, none⟩) (Upd.refl (fun b => b = p) w1) _ (fun _ => rfl)) _ (fun _ => rfl)
    exact ownsRow_upd hown hu (fun b hb => (hn b hb).2)

set_option maxHeartbeats 400000 in
set_option maxRecDepth 100000 in
theorem begin_grow (h : LogAt c k w p f L) (hf : f + L.length ≤ 1099511627776) (hm : L.length % 4 = 0) :
    Calls Tryz.prog 111 #[.pointer (some ⟨p, 0, none⟩)] w fun e w' => e = .returned (.tuple #[.int .u64 (f + L.length), .int .i64 0]) ∧
      LogAt (col c w.heap.size k) k w' p f (L ++ [1]) ∧ Upd (fun b => c b = k) w w' := by
  have hm1 : ((L.length : Int) % 4 == 0) = true := by rw [beq_iff_eq]; omega
  obtain ⟨i0, hi, hz0, hz1, hz2⟩ := info_parts Tryz.info5
  obtain ⟨h1, h4, v, hc1, hf1, hc2, hf2, hown, h7⟩ : 1 ≤ f ∧ c p = k ∧ ∃ v, w.cell? ⟨p, 1, none⟩ = some (.int .u64 L.length) ∧ w.frozen? ⟨p, 1, none⟩ = false ∧
      w.cell? ⟨p, 2, none⟩ = some v ∧ w.frozen? ⟨p, 2, none⟩ = false ∧ w.ownsRow 0 5 1 v ((L.length + 3) / 4) (u8s (pack L)) ∧ ∀ g, v.ownBlock = some g → c g = k ∧ g ≠ p := by
    obtain ⟨h1, h2, h3, h4, v, h5, h6, h7⟩ := h; exact ⟨h1, h4, v, cell_of_block h5 rfl, free_of_block h5, cell_of_block h5 rfl, free_of_block h5, h6, h7⟩
  have hl : (L.length : Int) ≤ 1099511627776 := by omega
  have hp := h.lt
  have H4 := Lib.hid h4; clear h4
  have H7 := Lib.hid h7; clear h7
  have Hm := Lib.hid hm; clear hm
  go_enter Tryz.func111, Tryz.ntmps111
  go_wp2_with (first
    | (go_at_call 97; refine (next_at (by first | exact h | exact h.drewN _)).mono ?_; rintro e w1 ⟨rfl, n, rfl⟩)
    | (at_builtin; refine wpList_append_mine rfl (.tmp 24) (.tmp 25) 23 rfl 0 5 i0 (.int .u8 0) 1 1 Tryz.underlying23 hi hz0 hz1 hz2 rfl (by decide) _ _ _ rfl (World.ownsRow.alloc (ownsRow_upd (S := fun _ => False) hown (Upd.of_drewN _) (fun _ _ x => x)) _) ⟨w.heap.size, 0, none⟩ 1 1 [.int .u8 0] rfl rfl ?c1 ?c2 ?c3 ?c4 ?c5 ?_))
  case c1 => exact cell_one_new _ _ _
  case c2 => intro u hu; simp at hu; subst hu; rfl
  case c3 => unfold maxLen; omega
  case c4 => omega
  case c5 => omega
  intro v' w1 hown' hupd hnew
  obtain ⟨hlog, hu1, he1, he2, he3, he4⟩ : LogAt (col c w.heap.size k) k ((w1.setCell ⟨p, 2, none⟩ v').setCell ⟨p, 1, none⟩ (.int .u64 (L.length + 1))) p f (L ++ [0]) ∧ Upd (fun b => c b = k) w w1 ∧
      w1.cell? ⟨p, 1, none⟩ = some (.int .u64 L.length) ∧ w1.frozen? ⟨p, 1, none⟩ = false ∧ w1.frozen? ⟨p, 2, none⟩ = false ∧ w1.cell? ⟨p, 2, none⟩ = some v := by
    have hU0 : Upd (fun b => v.ownBlock = some b) w w1 := Upd.trans (Upd.alloc (Upd.of_drewN _) _) hupd
    have hpv : ¬ v.ownBlock = some p := fun e => (H7.out p e).2 rfl
    refine ⟨LogAt.bump_new h hf Hm.out hc2 hown' hU0 (fun b hb => col_old hb) ?_, hU0.mono (fun b _ e => (H7.out b e).1), hU0.cell hc1 hpv, (World.frozen?_of_block (hU0.block p hp hpv)).trans hf1, (World.frozen?_of_block (hU0.block p hp hpv)).trans hf2, hU0.cell hc2 hpv⟩
    intro g hg
    rcases hnew g hg with e | e
    · have hlt : g < w.heap.size := (World.ownsRow.lt hown g e).2
      rw [col_old hlt]; exact H7.out g e
    · have hlt : w.heap.size + 1 ≤ g := by simpa using e
      exact ⟨col_new (by omega), by omega⟩
  obtain ⟨g, cap, rfl, _, _, _⟩ := ownsRow_some hown' (by omega)
  clear hupd hnew hown' hc1 hf1 hc2 hf2 hown
  go_wp2_with (go_at_call 173; refine (set_at hlog _ L.length 1 (by omega) (by simp) rfl).mono ?_; rintro e w2 ⟨rfl, hl2, hu⟩)
  go_ret2
  refine ⟨rfl, by rw [set_snoc0] at hl2; exact hl2, ?_⟩
  refine (Upd.setCell (Upd.setCell hu1 _ (fun _ => H4.out)) _ (fun _ => H4.out)).trans_new hu (fun b hb e => by rw [col_old hb] at e; exact e)

/-- clog.Begin, where a number is left. -/
theorem begin_at (h : LogAt c k w p f L) (hf : f + L.length ≤ 1099511627776) :
    Calls Tryz.prog 111 #[.pointer (some ⟨p, 0, none⟩)] w fun e w' => e = .returned (.tuple #[.int .u64 (f + L.length), .int .i64 0]) ∧
      LogAt (col c w.heap.size k) k w' p f (L ++ [1]) ∧ Upd (fun b => c b = k) w w' := by
  by_cases hm : L.length % 4 = 0
  · exact begin_grow h hf hm
  · refine (begin_room (h.recol (c' := col c w.heap.size k) (fun b hb => col_old hb)) hf hm).mono ?_
    rintro e w' ⟨rfl, hl, hu⟩
    exact ⟨rfl, hl, hu.mono (fun b hb e => by rw [col_old hb] at e; exact e)⟩

/-- Those that run: of the first n. -/
def running (f : Int) (L : List Nat) : List Int := ((List.range L.length).filter fun i => L.getD i 0 == 1).map fun (i : Nat) => f + (i : Int)
def runTo (f : Int) (L : List Nat) (n : Nat) : List Int := ((List.range n).filter fun i => L.getD i 0 == 1).map fun (i : Nat) => f + (i : Int)
def u64s (l : List Int) : List Value := l.map (Value.int .u64)
theorem runTo_succ (f : Int) (L : List Nat) (n : Nat) : runTo f L (n + 1) = runTo f L n ++ if L.getD n 0 = 1 then [f + (n : Int)] else [] := by
  unfold runTo
  rw [List.range_succ, List.filter_append, List.map_append]
  congr 1
  by_cases h : L.getD n 0 = 1
  · have e : (L.getD n 0 == 1) = true := by rw [h]; rfl
    rw [if_pos h, List.filter_cons, if_pos e]; rfl
  · have e : ¬ (L.getD n 0 == 1) = true := by rw [beq_iff_eq]; exact h
    rw [if_neg h, List.filter_cons, if_neg e]; rfl
theorem runTo_le (f : Int) (L : List Nat) (n : Nat) : (runTo f L n).length ≤ n := by
  unfold runTo; rw [List.length_map]; exact Nat.le_trans (List.length_filter_le _ _) (by simp)

set_option maxHeartbeats 400000 in
set_option maxRecDepth 100000 in
theorem all_at (h : LogAt c k w p f L) :
    Calls Tryz.prog 38 #[.pointer (some ⟨p, 0, none⟩)] w fun e w' => ∃ v, e = .returned v ∧ w'.ownsRow w.heap.size 40 1 v (running f L).length (u64s (running f L)) ∧ Below w.heap.size w w' := by
  obtain ⟨i0, hi, hz0, hz1, hz2⟩ := info_parts Tryz.info40
  obtain ⟨h1, h2, hc0, hc1⟩ : 1 ≤ f ∧ f + L.length ≤ 1099511627777 ∧ w.cell? ⟨p, 0, none⟩ = some (.int .u64 f) ∧ w.cell? ⟨p, 1, none⟩ = some (.int .u64 L.length) := by
    obtain ⟨h1, h2, h3, h4, v, h5, h6, h7⟩ := h; exact ⟨h1, h2, cell_of_block h5 rfl, cell_of_block h5 rfl⟩
  have hpl := h.lt
  go_enter Tryz.func38, Tryz.ntmps38
  go_wp2_with fail
  go_loopw [3, 11] (fun v i wr => ∃ n : Nat, n ≤ L.length ∧ i = .int .u64 n ∧ wr.ownsRow w.heap.size 40 1 v (runTo f L n).length (u64s (runTo f L n)) ∧ Below w.heap.size w wr) (fun _ i _ => L.length - (intOf i).toNat)
  case atStart => exact ⟨0, Nat.zero_le _, rfl, World.ownsRow_nil _ _ _ _, Below.refl _ _⟩
  case round =>
    obtain ⟨n, hn, rfl, hown, hB⟩ := hrel
    have hc0' := (hB.cell (p := ⟨p, 0, none⟩) hpl).trans hc0
    have hl := h.same hB
    by_cases hlt : n < L.length
    · have hst : stt f L (f + n) = L.getD n 0 := by rw [stt_in (by omega)]; congr 1; omega
      by_cases hr : L.getD n 0 = 1
      · have hb : (((stt f L (f + n) : Nat) : Int) == 1) = true := by rw [hst, hr]; rfl
        have hsu := runTo_succ f L n
        rw [if_pos hr] at hsu
        have hle := runTo_le f L n
        have hwz := hB.size
        have HS := Lib.hid hsu; clear hsu hst hr
        go_wp2_with (first
          | (go_at_call 68; refine (state_at hl _).mono ?_; rintro e w1 ⟨rfl, m, rfl⟩)
          | (at_builtin; refine wpList_append_mine rfl (.tmp 23) (.tmp 30) 75 rfl w.heap.size 40 i0 (.int .u64 0) 1 8 Tryz.underlying75 hi hz0 hz1 hz2 rfl (by decide) _ _ _ rfl (World.ownsRow.alloc (ownsRow_upd (S := fun _ => False) hown (Upd.of_drewN _) (fun _ _ x => x)) _) ⟨wr.heap.size, 0, none⟩ 1 1 [.int .u64 (f + n)] rfl rfl ?c1 ?c2 ?c3 ?c4 ?c5 ?_))
        case c1 => exact cell_one_new _ _ _
        case c2 => intro u hu; simp at hu; subst hu; rfl
        case c3 => unfold maxLen; omega
        case c4 => omega
        case c5 => simp; omega
        intro v' w1 hown' hupd _
        have hu1 : Below w.heap.size wr w1 := Upd.below (Upd.trans (Upd.alloc (Upd.of_drewN m) _) hupd) hwz (fun b hb e => by have := (World.ownsRow.lt hown b e).1; omega)
        clear hupd hown
        go_wp2
        go_roundw
        case rel => exact ⟨n + 1, by omega, by go_num, by rw [HS.out]; simpa [u64s] using hown', hB.trans hu1⟩
        case measure => simp [intOf]; omega
      · have hb : (((stt f L (f + n) : Nat) : Int) == 1) = false := by rw [hst, beq_eq_false_iff_ne]; omega
        have hsu := runTo_succ f L n
        rw [if_neg hr, List.append_nil] at hsu
        have HS := Lib.hid hsu; clear hsu hst hr
        go_wp2_with (go_at_call 68; refine (state_at hl _).mono ?_; rintro e w1 ⟨rfl, m, rfl⟩)
        go_roundw
        case rel => exact ⟨n + 1, by omega, by go_num, by rw [HS.out]; exact ownsRow_upd (S := fun _ => False) hown (Upd.of_drewN _) (fun _ _ x => x), hB.trans (Upd.below (Upd.of_drewN (S := fun _ => False) m) hB.size (fun _ _ x => x))⟩
        case measure => simp [intOf]; omega
    · have hnl : n = L.length := by omega
      subst hnl
      go_wp2
      go_ret
      exact ⟨_, rfl, hown, hB⟩

theorem new_ok (f : Int) (w : World) (h : 1 ≤ f) (h2 : f ≤ 1099511627776) (c : Nat → Nat) (k : Nat) :
    Calls Tryz.prog 60 #[.int .u64 f] w fun e w' => e = .returned (.tuple #[.pointer (some ⟨w.heap.size, 0, none⟩), .int .i64 0]) ∧
      LogAt (col c w.heap.size k) k w' w.heap.size f [] ∧ Below w.heap.size w w' := by
  have hb : (f == 0) = false := by rw [beq_eq_false_iff_ne]; omega
  go_enter Tryz.func60, Tryz.ntmps60
  go_wp2
  go_ret2
  exact ⟨rfl, ⟨h, by simp; omega, Four.nil, col_new (Nat.le_refl _), .slice none 0 0, heap_alloc_new w _, World.ownsRow_nil _ _ _ _, fun g hg => by simp [Value.ownBlock] at hg⟩, (Below.refl _ _).alloc (Nat.le_refl _) _⟩
end
end Go.Proofs.YtnkjnclpakfgnaaGreatDoor
namespace Go.Proofs.YtnkjnclpakfgnaaGreatDoor
open Go.RowKit

/-- A snapshot, plainly. -/
structure Snp where
  own : Int
  xmin : Int
  xmax : Int
  run : List Int
def Snp.val (s : Snp) (rv : Value) : Value := .agg #[.int .u64 s.own, .int .u64 s.xmin, .int .u64 s.xmax, rv]
/-- rv reads as the list. -/
def Run (w : World) (rv : Value) (l : List Int) : Prop := w.ownsRow 0 40 1 rv l.length (u64s l) ∧ l.length ≤ 1099511627776

def sees (f : Int) (L : List Nat) (s : Snp) (x : Int) : Bool := x == s.own || (decide (x < s.xmax) && !s.run.contains x && stt f L x == 2)
/-- A version: its row, who made it, who ended it, the place behind it, its bytes. -/
def tup (row np ns : Int) (d : Value) (xmin xmax : Int) : Value := .agg #[.int .u64 row, .int .u64 xmin, .int .u64 xmax, .int .i64 np, .int .i64 ns, d]
def vis (f : Int) (L : List Nat) (s : Snp) (a b : Int) : Bool := sees f L s a && (b == 0 || !sees f L s b)
def freeE (f : Int) (L : List Nat) (s : Snp) (a b : Int) : Int := if b ≠ 0 ∧ b ≠ s.own ∧ stt f L b ≠ 3 then 11 else if vis f L s a b then 0 else 14
def deadB (f : Int) (L : List Nat) (a b h : Int) : Bool := stt f L a == 3 || (b != 0 && stt f L b == 2 && decide (b < h))

section
variable {c : Nat → Nat} {k p : Nat} {w w' : World} {f : Int} {L : List Nat}

theorem Run.upd {S : Nat → Prop} {rv : Value} {l : List Int} (h : Run w rv l) (u : Upd S w w') (hs : ∀ b, rv.ownBlock = some b → ¬ S b) : Run w' rv l := ⟨ownsRow_upd h.1 u hs, h.2⟩
theorem Run.same {rv : Value} {l : List Int} (h : Run w rv l) (u : Below w.heap.size w w') : Run w' rv l := h.upd (S := fun _ => False) (Upd.same u) (fun _ _ x => x)
theorem Run.drewN {rv : Value} {l : List Int} (h : Run w rv l) (n : Nat) : Run (w.drewN n) rv l := h.upd (S := fun _ => False) (Upd.of_drewN n) (fun _ _ x => x)
theorem Run.alloc {rv : Value} {l : List Int} (h : Run w rv l) (o : Obj) : Run (w.alloc o) rv l := h.same ((Below.refl _ _).alloc (Nat.le_refl _) o)

theorem heap_new1 (w : World) (o : Obj) : (w.alloc o).heap[w.heap.size]? = some o := heap_alloc_new w o
theorem heap_new2 (w : World) (o o' : Obj) : ((w.alloc o).alloc o').heap[w.heap.size + 1]? = some o' := by
  have h := heap_alloc_new (w.alloc o) o'
  have e : (w.alloc o).heap.size = w.heap.size + 1 := by simp
  rw [e] at h; exact h

/-- Where the first is, or -1. -/
def idx : List Int → Int → Nat → Int
  | [], _, _ => -1
  | y :: l, x, i => if x = y then (i : Int) else idx l x (i + 1)
theorem idx_ge (l : List Int) (x : Int) (i : Nat) : (0 ≤ idx l x i) ↔ x ∈ l := by
  induction l generalizing i with
  | nil => simp [idx]
  | cons y l ih =>
    unfold idx
    by_cases e : x = y
    · simp [e]
    · rw [if_neg e, ih]; simp [e]
theorem idx_drop (l : List Int) (x : Int) (n : Nat) (h : n < l.length) : idx (l.drop n) x n = if x = l[n] then (n : Int) else idx (l.drop (n + 1)) x (n + 1) := by
  rw [List.drop_eq_getElem_cons h]; rfl

/-- slices.Index, of uint64s. -/
theorem index_run {rv : Value} {l : List Int} (h : Run w rv l) (x : Int) :
    Calls Tryz.prog 230 #[rv, .int .u64 x] w fun e w' => e = .returned (.int .i64 (idx l x 0)) ∧ w' = w := by
  obtain ⟨h, hl⟩ := h
  obtain ⟨a, cap, rfl⟩ := ownsRow_slice h
  go_enter Tryz.func230, Tryz.ntmps230
  go_wp2_with fail
  go_loop [8] (fun i => ∃ n : Nat, n ≤ l.length ∧ i = .int .i64 n ∧ idx l x 0 = idx (l.drop n) x n) (fun i => l.length - (intOf i).toNat)
  case atStart => exact ⟨0, Nat.zero_le _, rfl, rfl⟩
  case round =>
    obtain ⟨n, hn, rfl, hx⟩ := hrel
    by_cases hlt : n < l.length
    · have hj : (u64s l)[n]? = some (.int .u64 (l[n])) := by simp [u64s, hlt]
      obtain ⟨g, q, e1, d1, _, _, _⟩ := ownsRow_cell1 h hj
      simp only [Value.slice.injEq] at e1
      obtain ⟨rfl, _, rfl⟩ := e1
      have hd := idx_drop l x n hlt
      clear hj
      obtain ⟨y, hy⟩ : ∃ y, y = l[n] := ⟨_, rfl⟩
      rw [← hy] at d1 hd
      clear hy
      have HX := Lib.hid hx; clear hx
      by_cases e : x = y
      · rw [if_pos e] at hd
        have hb : (x == y) = true := by rw [beq_iff_eq]; exact e
        have HD := Lib.hid hd; clear hd e
        go_wp2_with fail
        go_ret
        exact ⟨by rw [HX.out, HD.out]; rfl, rfl⟩
      · rw [if_neg e] at hd
        have hb : (x == y) = false := by rw [beq_eq_false_iff_ne]; exact e
        have HD := Lib.hid hd; clear hd e
        go_wp2_with fail
        go_round
        case rel => exact ⟨n + 1, by omega, by go_num, HX.out.trans HD.out⟩
        case measure => simp [intOf]; omega
    · have hnl : n = l.length := by omega
      subst hnl
      rw [List.drop_length] at hx
      have HX := Lib.hid hx; clear hx
      go_wp2_with fail
      go_ret
      exact ⟨by rw [HX.out]; rfl, rfl⟩
theorem contains_run {rv : Value} {l : List Int} (h : Run w rv l) (x : Int) :
    Calls Tryz.prog 148 #[rv, .int .u64 x] w fun e w' => e = .returned (.bool (l.contains x)) ∧ w' = w := by
  have e : l.contains x = decide (0 ≤ idx l x 0) := by
    rw [List.contains_eq_mem, decide_eq_decide, idx_ge]
  rw [e]
  obtain ⟨i, hi⟩ : ∃ i, i = idx l x 0 := ⟨_, rfl⟩
  have hc := index_run h x
  rw [← hi] at hc ⊢
  have HC := Lib.hid hc; clear hc hi e
  go_enter Tryz.func148, Tryz.ntmps148
  go_wp2_with (go_at_call 230; refine HC.out.mono ?_; rintro e w1 ⟨rfl, rfl⟩)
  go_ret
  exact ⟨rfl, rfl⟩

/-- snap.Sees. -/
theorem sees_at (h : LogAt c k w p f L) {s : Snp} {rv : Value} (hr : Run w rv s.run) (x : Int) :
    Calls Tryz.prog 99 #[.pointer (some ⟨p, 0, none⟩), s.val rv, .int .u64 x] w fun e w' => e = .returned (.bool (sees f L s x)) ∧ Below w.heap.size w w' := by
  obtain ⟨own, xmin, xmax, run⟩ := s
  unfold Snp.val
  simp only at hr ⊢
  have hal := (Below.refl w.heap.size w).alloc (Nat.le_refl _) (.cells #[.int .u64 own, .int .u64 xmin, .int .u64 xmax, rv] 117)
  by_cases e1 : x = own
  · have hs : sees f L ⟨own, xmin, xmax, run⟩ x = true := by simp [sees, e1]
    have hb : (x == own) = true := by rw [beq_iff_eq]; exact e1
    rw [hs]; clear hs e1
    go_enter Tryz.func99, Tryz.ntmps99
    go_wp2_with fail
    go_ret
    exact ⟨rfl, hal⟩
  have hb : (x == own) = false := by rw [beq_eq_false_iff_ne]; exact e1
  by_cases e2 : x < xmax
  · by_cases e3 : run.contains x = true
    · have hs : sees f L ⟨own, xmin, xmax, run⟩ x = false := by simp only [sees, hb, e3]; simp
      rw [hs]; clear hs e1
      go_enter Tryz.func99, Tryz.ntmps99
      go_wp2_with (go_at_call 148; refine (contains_run (hr.alloc _) x).mono ?_; rw [e3]; rintro e w1 ⟨rfl, rfl⟩)
      go_ret
      exact ⟨rfl, hal⟩
    · have e3 : run.contains x = false := by simpa using e3
      have hs : sees f L ⟨own, xmin, xmax, run⟩ x = (((stt f L x : Nat) : Int) == 2) := by
        unfold sees
        simp only [hb, e2, e3, Bool.false_or, decide_true, Bool.not_false, Bool.true_and]
        rw [Bool.eq_iff_iff]; simp; omega
      rw [hs]; clear hs e1
      go_enter Tryz.func99, Tryz.ntmps99
      go_wp2_with (first
        | (go_at_call 148; refine (contains_run (hr.alloc _) x).mono ?_; rw [e3]; rintro e w1 ⟨rfl, rfl⟩)
        | (go_at_call 68; refine (state_at (h.same hal) x).mono ?_; rintro e w1 ⟨rfl, n, rfl⟩))
      go_ret
      exact ⟨rfl, hal.trans below_drewN⟩
  · have hs : sees f L ⟨own, xmin, xmax, run⟩ x = false := by simp [sees, e1, e2]
    have hd : decide (x < xmax) = false := by simpa using e2
    rw [hs]; clear hs e1
    go_enter Tryz.func99, Tryz.ntmps99
    go_wp2_with fail
    go_ret
    exact ⟨rfl, hal⟩

/-- snap.Visible. -/
theorem vis_at (h : LogAt c k w p f L) {s : Snp} {rv : Value} (hr : Run w rv s.run) (row np ns : Int) (d : Value) (a b : Int) :
    Calls Tryz.prog 70 #[.pointer (some ⟨p, 0, none⟩), s.val rv, tup row np ns d a b] w fun e w' => e = .returned (.bool (vis f L s a b)) ∧ Below w.heap.size w w' := by
  have hr0 := hr
  have hsee : ∀ (w : World), LogAt c k w p f L → Run w rv s.run → ∀ x, Calls Tryz.prog 99 #[.pointer (some ⟨p, 0, none⟩), s.val rv, .int .u64 x] w fun e w' => e = .returned (.bool (sees f L s x)) ∧ Below w.heap.size w w' := fun w h hr x => sees_at h hr x
  have HSEE := Lib.hid hsee; clear hsee
  have hv : vis f L s a b = (sees f L s a && (b == 0 || !sees f L s b)) := rfl
  obtain ⟨sa, hsa⟩ : ∃ z, z = sees f L s a := ⟨_, rfl⟩
  obtain ⟨sb, hsb⟩ : ∃ z, z = sees f L s b := ⟨_, rfl⟩
  rw [hv, ← hsa, ← hsb]
  have HA := Lib.hid hsa; clear hsa
  have HB := Lib.hid hsb; clear hsb hv
  obtain ⟨own, xmin, xmax, run⟩ := s
  unfold Snp.val tup at *
  simp only at hr HSEE ⊢
  have hal : Below w.heap.size w ((w.alloc (.cells #[.int .u64 own, .int .u64 xmin, .int .u64 xmax, rv] 117)).alloc (.cells #[.int .u64 row, .int .u64 a, .int .u64 b, .int .i64 np, .int .i64 ns, d] 147)) :=
    ((Below.refl w.heap.size w).alloc (Nat.le_refl _) _).alloc (by simp) _
  cases sa
  · go_enter Tryz.func70, Tryz.ntmps70
    go_wp2_with (go_at_call 99; refine (HSEE.out _ (h.same hal) (hr.same hal) a).mono ?_; rw [← HA.out]; rintro e w1 ⟨rfl, b1⟩)
    go_ret
    exact ⟨rfl, hal.trans (b1.mono hal.size)⟩
  by_cases hb0 : b = 0
  · have hb : (b == 0) = true := by rw [beq_iff_eq]; exact hb0
    clear hb0
    go_enter Tryz.func70, Tryz.ntmps70
    go_wp2_with fail
    refine (HSEE.out _ (h.same hal) (hr.same hal) a).mono ?_
    rw [← HA.out]
    rintro e w1 ⟨rfl, b1⟩
    have hc : w1.cell? ⟨w.heap.size + 1, 2, none⟩ = some (.int .u64 b) := (b1.cell (p := ⟨w.heap.size + 1, 2, none⟩) (by simp)).trans (cell_of_block (heap_new2 _ _ _) rfl)
    go_wp2_with fail
    go_ret
    exact ⟨by rw [hb]; rfl, hal.trans (b1.mono hal.size)⟩
  · have hb : (b == 0) = false := by rw [beq_eq_false_iff_ne]; exact hb0
    clear hb0
    go_enter Tryz.func70, Tryz.ntmps70
    go_wp2_with fail
    refine (HSEE.out _ (h.same hal) (hr.same hal) a).mono ?_
    rw [← HA.out]
    rintro e w1 ⟨rfl, b1⟩
    have hc : w1.cell? ⟨w.heap.size + 1, 2, none⟩ = some (.int .u64 b) := (b1.cell (p := ⟨w.heap.size + 1, 2, none⟩) (by simp)).trans (cell_of_block (heap_new2 _ _ _) rfl)
    have hc0 : w1.cell? ⟨w.heap.size, 0, none⟩ = some (.int .u64 own) := (b1.cell (p := ⟨w.heap.size, 0, none⟩) (by simp; omega)).trans (cell_of_block (block_alloc (heap_new1 _ _) _) rfl)
    have hc1 : w1.cell? ⟨w.heap.size, 1, none⟩ = some (.int .u64 xmin) := (b1.cell (p := ⟨w.heap.size, 1, none⟩) (by simp; omega)).trans (cell_of_block (block_alloc (heap_new1 _ _) _) rfl)
    have hc2 : w1.cell? ⟨w.heap.size, 2, none⟩ = some (.int .u64 xmax) := (b1.cell (p := ⟨w.heap.size, 2, none⟩) (by simp; omega)).trans (cell_of_block (block_alloc (heap_new1 _ _) _) rfl)
    have hc3 : w1.cell? ⟨w.heap.size, 3, none⟩ = some rv := (b1.cell (p := ⟨w.heap.size, 3, none⟩) (by simp; omega)).trans (cell_of_block (block_alloc (heap_new1 _ _) _) rfl)
    have b01 := hal.trans (b1.mono hal.size)
    go_wp2_with (go_at_call 99; refine (HSEE.out _ (h.same b01) (hr.same b01) b).mono ?_; rw [← HB.out]; rintro e w2 ⟨rfl, b2⟩)
    go_ret
    exact ⟨by rw [hb]; rfl, b01.trans (b2.mono b01.size)⟩

/-- snap.Dead. -/
theorem dead_at (h : LogAt c k w p f L) (row np ns : Int) (d : Value) (a b hz : Int) :
    Calls Tryz.prog 140 #[.pointer (some ⟨p, 0, none⟩), tup row np ns d a b, .int .u64 hz] w fun e w' => e = .returned (.bool (deadB f L a b hz)) ∧ Below w.heap.size w w' := by
  have hal : Below w.heap.size w (w.alloc (.cells #[.int .u64 row, .int .u64 a, .int .u64 b, .int .i64 np, .int .i64 ns, d] 147)) := (Below.refl w.heap.size w).alloc (Nat.le_refl _) _
  have hst := fun (w : World) (h : LogAt c k w p f L) x => state_at h x
  have hv : deadB f L a b hz = ((((stt f L a : Nat) : Int) == 3) || (b != 0 && (((stt f L b : Nat) : Int) == 2) && decide (b < hz))) := by
    unfold deadB
    have e1 : (stt f L a == 3) = (((stt f L a : Nat) : Int) == 3) := by rw [Bool.eq_iff_iff]; simp; omega
    have e2 : (stt f L b == 2) = (((stt f L b : Nat) : Int) == 2) := by rw [Bool.eq_iff_iff]; simp; omega
    rw [e1, e2]
  rw [hv]; clear hv
  unfold tup
  obtain ⟨sa, hsa⟩ : ∃ z, z = ((stt f L a : Nat) : Int) := ⟨_, rfl⟩
  obtain ⟨sb, hsb⟩ : ∃ z, z = ((stt f L b : Nat) : Int) := ⟨_, rfl⟩
  rw [← hsa, ← hsb]
  have HA := Lib.hid hsa; clear hsa
  have HB := Lib.hid hsb; clear hsb
  have HST := Lib.hid hst; clear hst
  by_cases e1 : sa = 3
  · have d1 : (sa == 3) = true := by rw [beq_iff_eq]; exact e1
    clear e1
    go_enter Tryz.func140, Tryz.ntmps140
    go_wp2_with (go_at_call 68; refine (HST.out _ (h.same hal) a).mono ?_; rw [← HA.out]; rintro e w1 ⟨rfl, n, rfl⟩)
    go_ret
    exact ⟨by rw [d1]; rfl, hal.trans below_drewN⟩
  have d1 : (sa == 3) = false := by rw [beq_eq_false_iff_ne]; exact e1
  clear e1
  by_cases e2 : b = 0
  · have d2 : (b != 0) = false := by rw [e2]; rfl
    clear e2
    go_enter Tryz.func140, Tryz.ntmps140
    go_wp2_with (go_at_call 68; refine (HST.out _ (h.same hal) a).mono ?_; rw [← HA.out]; rintro e w1 ⟨rfl, n, rfl⟩)
    go_ret
    exact ⟨by rw [d1, d2]; rfl, hal.trans below_drewN⟩
  have d2 : (b != 0) = true := by rw [bne_iff_ne]; exact e2
  clear e2
  by_cases e3 : sb = 2
  · have d3 : (sb == 2) = true := by rw [beq_iff_eq]; exact e3
    clear e3
    go_enter Tryz.func140, Tryz.ntmps140
    go_wp2_with fail
    refine (HST.out _ (h.same hal) a).mono ?_; rw [← HA.out]; rintro e w1 ⟨rfl, n, rfl⟩
    go_wp2_with fail
    refine (HST.out _ ((h.same hal).drewN n) b).mono ?_; rw [← HB.out]; rintro e w1 ⟨rfl, n2, rfl⟩
    go_wp2_with fail
    all_goals
      go_ret
      exact ⟨by simp [d1, d2, d3], hal.trans below_drewN⟩
  · have d3 : (sb == 2) = false := by rw [beq_eq_false_iff_ne]; exact e3
    clear e3
    go_enter Tryz.func140, Tryz.ntmps140
    go_wp2_with fail
    refine (HST.out _ (h.same hal) a).mono ?_; rw [← HA.out]; rintro e w1 ⟨rfl, n, rfl⟩
    go_wp2_with fail
    refine (HST.out _ ((h.same hal).drewN n) b).mono ?_; rw [← HB.out]; rintro e w1 ⟨rfl, n2, rfl⟩
    go_wp2_with fail
    go_ret
    exact ⟨by simp [d1, d2, d3], hal.trans below_drewN⟩

/-- snap.Free. -/
theorem free_at (h : LogAt c k w p f L) {s : Snp} {rv : Value} (hr : Run w rv s.run) (row np ns : Int) (d : Value) (a b : Int) :
    Calls Tryz.prog 321 #[.pointer (some ⟨p, 0, none⟩), s.val rv, tup row np ns d a b] w fun e w' => e = .returned (.int .i64 (freeE f L s a b)) ∧ Below w.heap.size w w' := by
  have hal : Below w.heap.size w ((w.alloc (.cells #[.int .u64 s.own, .int .u64 s.xmin, .int .u64 s.xmax, rv] 117)).alloc (.cells #[.int .u64 row, .int .u64 a, .int .u64 b, .int .i64 np, .int .i64 ns, d] 147)) :=
    ((Below.refl w.heap.size w).alloc (Nat.le_refl _) _).alloc (by simp) _
  have hvis : ∀ (w : World), LogAt c k w p f L → Run w rv s.run → Calls Tryz.prog 70 #[.pointer (some ⟨p, 0, none⟩), .agg #[.int .u64 s.own, .int .u64 s.xmin, .int .u64 s.xmax, rv], .agg #[.int .u64 row, .int .u64 a, .int .u64 b, .int .i64 np, .int .i64 ns, d]] w
      fun e w' => e = .returned (.bool (vis f L s a b)) ∧ Below w.heap.size w w' := fun w h hr => vis_at h hr row np ns d a b
  have HV := Lib.hid hvis; clear hvis
  have hst := fun (w : World) (h : LogAt c k w p f L) x => state_at h x
  have HST := Lib.hid hst; clear hst
  obtain ⟨vv, hvv⟩ : ∃ z, z = vis f L s a b := ⟨_, rfl⟩
  obtain ⟨sb, hsb⟩ : ∃ z, z = ((stt f L b : Nat) : Int) := ⟨_, rfl⟩
  have hE : freeE f L s a b = if b ≠ 0 ∧ b ≠ s.own ∧ sb ≠ 3 then 11 else if vv then 0 else 14 := by
    unfold freeE
    have e : stt f L b = 3 ↔ sb = 3 := by rw [hsb]; omega
    simp only [ne_eq, e, hvv]
  rw [hE]; clear hE
  unfold Snp.val tup
  have HVV := Lib.hid hvv; clear hvv
  have HB := Lib.hid hsb; clear hsb
  obtain ⟨own, xmin, xmax, run⟩ := s
  simp only at hr hal HV ⊢
  have fin : ∀ (w1 : World) (o1 : Below w.heap.size w w1), (b = 0 ∨ b = own ∨ sb = 3) → Calls Tryz.prog 70 #[.pointer (some ⟨p, 0, none⟩), .agg #[.int .u64 own, .int .u64 xmin, .int .u64 xmax, rv], .agg #[.int .u64 row, .int .u64 a, .int .u64 b, .int .i64 np, .int .i64 ns, d]] w1
      fun e w' => e = .returned (.bool vv) ∧ Below w1.heap.size w1 w' := fun w1 o1 _ => by
    have := HV.out w1 (h.same o1) (hr.same o1)
    rw [← HVV.out] at this; exact this
  have HF := Lib.hid fin; clear fin
  by_cases e1 : b = 0
  · have d1 : (b != 0) = false := by rw [e1]; rfl
    have hc : ¬ (b ≠ 0 ∧ b ≠ own ∧ sb ≠ 3) := fun x => x.1 e1
    have e1' := Lib.hid e1; clear e1
    rw [if_neg hc]; clear hc
    cases vv
    all_goals
      go_enter Tryz.func321, Tryz.ntmps321
      go_wp2_with (go_at_call 70; refine (HF.out _ hal (.inl e1'.out)).mono ?_; rintro e w1 ⟨rfl, b1⟩)
      go_ret
      exact ⟨rfl, hal.trans (b1.mono hal.size)⟩
  have d1 : (b != 0) = true := by rw [bne_iff_ne]; exact e1
  by_cases e2 : b = own
  · have d2 : (b != own) = false := by rw [e2]; simp
    have hc : ¬ (b ≠ 0 ∧ b ≠ own ∧ sb ≠ 3) := fun x => x.2.1 e2
    have e2' := Lib.hid e2; clear e2 e1
    rw [if_neg hc]; clear hc
    cases vv
    all_goals
      go_enter Tryz.func321, Tryz.ntmps321
      go_wp2_with (go_at_call 70; refine (HF.out _ hal (.inr (.inl e2'.out))).mono ?_; rintro e w1 ⟨rfl, b1⟩)
      go_ret
      exact ⟨rfl, hal.trans (b1.mono hal.size)⟩
  have d2 : (b != own) = true := by rw [bne_iff_ne]; exact e2
  by_cases e3 : sb = 3
  · have d3 : (sb != 3) = false := by rw [e3]; rfl
    have hc : ¬ (b ≠ 0 ∧ b ≠ own ∧ sb ≠ 3) := fun x => x.2.2 e3
    have e3' := Lib.hid e3; clear e3 e2 e1
    rw [if_neg hc]; clear hc
    cases vv
    all_goals
      go_enter Tryz.func321, Tryz.ntmps321
      go_wp2_with (first
        | (go_at_call 68; refine (HST.out _ (h.same hal) b).mono ?_; rw [← HB.out]; rintro e w1 ⟨rfl, n, rfl⟩)
        | (go_at_call 70; refine (HF.out _ (hal.trans below_drewN) (.inr (.inr e3'.out))).mono ?_; rintro e w1 ⟨rfl, b1⟩))
      go_ret
      exact ⟨rfl, (hal.trans below_drewN).trans (b1.mono (by have := hal.size; simpa using this))⟩
  · have d3 : (sb != 3) = true := by rw [bne_iff_ne]; exact e3
    rw [if_pos ⟨e1, e2, e3⟩]
    clear e1 e2 e3
    go_enter Tryz.func321, Tryz.ntmps321
    go_wp2_with (go_at_call 68; refine (HST.out _ (h.same hal) b).mono ?_; rw [← HB.out]; rintro e w1 ⟨rfl, n, rfl⟩)
    go_ret
    exact ⟨rfl, hal.trans below_drewN⟩

/-! ### slices of snapshots -/
def snapCells (x : Snp × Value) : List Value := [.int .u64 x.1.own, .int .u64 x.1.xmin, .int .u64 x.1.xmax, x.2]
/-- sv holds the snapshots l, whose lists are k's by c. -/
def Snaps (c : Nat → Nat) (k : Nat) (w : World) (sv : Value) (l : List (Snp × Value)) : Prop :=
  w.ownsRow 0 117 4 sv l.length (l.flatMap snapCells) ∧ (∀ g, sv.ownBlock = some g → c g = k) ∧ (∀ x ∈ l, Run w x.2 x.1.run ∧ ∀ g, x.2.ownBlock = some g → c g = k) ∧ l.length ≤ 1099511627776

theorem Snaps.upd {S : Nat → Prop} {sv : Value} {l : List (Snp × Value)} (h : Snaps c k w sv l) (u : Upd S w w') (hs : ∀ b, c b = k → ¬ S b) : Snaps c k w' sv l := by
  obtain ⟨h1, h2, h3, h4⟩ := h
  exact ⟨ownsRow_upd h1 u (fun b hb => hs b (h2 b hb)), h2, fun x hx => ⟨(h3 x hx).1.upd u (fun b hb => hs b ((h3 x hx).2 b hb)), (h3 x hx).2⟩, h4⟩
theorem Snaps.same {sv : Value} {l : List (Snp × Value)} (h : Snaps c k w sv l) (u : Below w.heap.size w w') : Snaps c k w' sv l := h.upd (S := fun _ => False) (Upd.same u) (fun _ _ x => x)
theorem Snaps.drewN {sv : Value} {l : List (Snp × Value)} (h : Snaps c k w sv l) (n : Nat) : Snaps c k (w.drewN n) sv l := h.upd (S := fun _ => False) (Upd.of_drewN n) (fun _ _ x => x)
theorem Run.lt {rv : Value} {l : List Int} (h : Run w rv l) : ∀ g, rv.ownBlock = some g → g < w.heap.size := fun g hg => (World.ownsRow.lt h.1 g hg).2
theorem Snaps.recol {c' : Nat → Nat} {sv : Value} {l : List (Snp × Value)} (h : Snaps c k w sv l) (hc : ∀ b, b < w.heap.size → c' b = c b) : Snaps c' k w sv l := by
  obtain ⟨h1, h2, h3, h4⟩ := h
  exact ⟨h1, fun g hg => (hc g (World.ownsRow.lt h1 g hg).2).trans (h2 g hg), fun x hx => ⟨(h3 x hx).1, fun g hg => (hc g ((h3 x hx).1.lt g hg)).trans ((h3 x hx).2 g hg)⟩, h4⟩
theorem Snaps.nil (c : Nat → Nat) (k : Nat) (w : World) : Snaps c k w (.slice none 0 0) [] := ⟨World.ownsRow_nil _ _ _ _, (fun g hg => by simp [Value.ownBlock] at hg), (fun x hx => by cases hx), by decide⟩
/-- Element i. -/
theorem Snaps.at {sv : Value} {l : List (Snp × Value)} (h : Snaps c k w sv l) {i : Nat} (hi : i < l.length) :
    ∃ g cap, sv = .slice (some ⟨g, 0, none⟩) l.length cap ∧ w.cell? ⟨g, i * 4, none⟩ = some (.int .u64 l[i].1.own) ∧ w.cell? ⟨g, i * 4 + 1, none⟩ = some (.int .u64 l[i].1.xmin) ∧
      w.cell? ⟨g, i * 4 + 2, none⟩ = some (.int .u64 l[i].1.xmax) ∧ (∃ ra rc, w.cell? ⟨g, i * 4 + 3, none⟩ = some (.slice ra l[i].1.run.length rc) ∧ l[i].2 = .slice ra l[i].1.run.length rc) ∧ Run w l[i].2 l[i].1.run ∧ c g = k := by
  obtain ⟨h1, h2, h3, h4⟩ := h
  have hc : ∀ j, j < 4 → (l.flatMap snapCells)[i * 4 + j]? = (snapCells l[i])[j]? := fun j hj => by
    rw [getElem?_flat snapCells 4 (fun _ => rfl) l i j hj, List.getElem?_eq_getElem hi]; rfl
  obtain ⟨g, cap, rfl, c0, _⟩ := ownsRow_cell h1 (hc 0 (by decide))
  obtain ⟨g1, cap1, e1, c1, _⟩ := ownsRow_cell h1 (hc 1 (by decide))
  obtain ⟨g2, cap2, e2, c2, _⟩ := ownsRow_cell h1 (hc 2 (by decide))
  obtain ⟨g3, cap3, e3, c3, _⟩ := ownsRow_cell h1 (hc 3 (by decide))
  simp only [Value.slice.injEq, Option.some.injEq, Addr.mk.injEq] at e1 e2 e3
  obtain ⟨⟨rfl, _⟩, _, rfl⟩ := e1
  obtain ⟨⟨rfl, _⟩, _, rfl⟩ := e2
  obtain ⟨⟨rfl, _⟩, _, rfl⟩ := e3
  have hr := (h3 _ (List.getElem_mem hi)).1
  obtain ⟨ra, rc, hrv⟩ := ownsRow_slice hr.1
  exact ⟨g, cap, rfl, c0, c1, c2, ⟨ra, rc, by rw [← hrv]; exact c3, hrv⟩, hr, h2 g rfl⟩

def least (nx : Int) : List Int → Int
  | [] => nx
  | x :: r => r.foldl (fun a y => if y < a then y else a) x
theorem least_snoc (nx : Int) (l : List Int) (y : Int) : least nx (l ++ [y]) = if l = [] then y else if y < least nx l then y else least nx l := by
  cases l with
  | nil => rfl
  | cons x r =>
    show List.foldl _ _ (r ++ [y]) = _
    rw [List.foldl_append, if_neg (by simp)]; rfl

set_option maxRecDepth 100000 in
/-- snap.Horizon. -/
theorem horizon_at {k' : Nat} (h : LogAt c k w p f L) {sv : Value} {l : List (Snp × Value)} (hs : Snaps c k' w sv l) :
    Calls Tryz.prog 141 #[.pointer (some ⟨p, 0, none⟩), sv] w fun e w' => e = .returned (.int .u64 (least (f + L.length) (l.map (·.1.xmin)))) ∧ Below w.heap.size w w' := by
  have hs1 := hs.1
  obtain ⟨a, cap, rfl⟩ := ownsRow_slice hs1
  have hl := hs.2.2.2
  clear hs1
  go_enter Tryz.func141, Tryz.ntmps141
  go_wp2_with fail
  refine (next_at h).mono ?_
  rintro e w0 ⟨rfl, n0, rfl⟩
  go_wp2_with fail
  go_loopw [5, 12] (fun v i wr => ∃ n : Nat, n ≤ l.length ∧ i = .int .i64 n ∧ v = .int .u64 (least (f + L.length) ((l.take n).map (·.1.xmin))) ∧ Below w.heap.size w wr) (fun _ i _ => l.length - (intOf i).toNat)
  case atStart => exact ⟨0, Nat.zero_le _, rfl, rfl, below_drewN⟩
  case round =>
    obtain ⟨n, hn, rfl, rfl, hB⟩ := hrel
    have hz := hB.size
    by_cases hlt : n < l.length
    · obtain ⟨g, cp, hg, c0, c1, c2, ⟨ra, rc, c3, _⟩, _, _⟩ := (hs.same hB).at hlt
      simp only [Value.slice.injEq] at hg
      obtain ⟨rfl, _, rfl⟩ := hg
      have hst : (l.take (n + 1)).map (·.1.xmin) = (l.take n).map (·.1.xmin) ++ [l[n].1.xmin] := by rw [List.take_succ_eq_append_getElem hlt, List.map_append]; rfl
      have hsn := least_snoc (f + L.length) ((l.take n).map (·.1.xmin)) l[n].1.xmin
      rw [← hst] at hsn
      have hemp : ((l.take n).map (·.1.xmin) = []) ↔ n = 0 := by
        rw [List.map_eq_nil_iff, List.take_eq_nil_iff]
        constructor
        · rintro (h | h)
          · exact h
          · rw [h] at hlt; simp at hlt
        · exact fun h => .inl h
      clear hst
      have HE := Lib.hid hemp; clear hemp
      obtain ⟨s0, hs0⟩ : ∃ z, z = l[n] := ⟨_, rfl⟩
      rw [← hs0] at c0 c1 c2 c3 hsn
      clear hs0
      obtain ⟨now, hnow⟩ : ∃ z, z = least (f + L.length) ((l.take n).map (·.1.xmin)) := ⟨_, rfl⟩
      rw [← hnow] at hsn ⊢
      clear hnow
      by_cases h0 : n = 0
      · subst h0
        rw [if_pos (HE.out.2 rfl)] at hsn
        have HS := Lib.hid hsn; clear hsn
        go_wp2_with fail
        go_roundw
        case rel => exact ⟨1, by omega, by go_num, by rw [HS.out], hB.alloc hz _⟩
        case measure => simp [intOf]; omega
      · rw [if_neg (fun x => h0 (HE.out.1 x))] at hsn
        have hb0 : ((n : Int) == 0) = false := by rw [beq_eq_false_iff_ne]; omega
        by_cases hlt2 : s0.1.xmin < now
        · rw [if_pos hlt2] at hsn
          have HS := Lib.hid hsn; clear hsn
          go_wp2_with fail
          go_roundw
          case rel => exact ⟨n + 1, by omega, by go_num, by rw [HS.out], hB.alloc hz _⟩
          case measure => simp [intOf]; omega
        · rw [if_neg hlt2] at hsn
          have HS := Lib.hid hsn; clear hsn
          have hd : decide (s0.1.xmin < now) = false := by simpa using hlt2
          go_wp2_with fail
          go_roundw
          case rel => exact ⟨n + 1, by omega, by go_num, by rw [HS.out], hB.alloc hz _⟩
          case measure => simp [intOf]; omega
    · have hnl : n = l.length := by omega
      subst hnl
      go_wp2_with fail
      go_ret
      exact ⟨by rw [List.take_length]; rfl, hB⟩
end
end Go.Proofs.YtnkjnclpakfgnaaGreatDoor
namespace Go.Proofs.YtnkjnclpakfgnaaGreatDoor
open Go.RowKit

def least2 (nx : Int) (l : List Int) : Int := l.foldl min nx
def take (f : Int) (L : List Nat) (own : Int) : Snp :=
  ⟨own, least2 (f + L.length) ((running f L).filter (· != own)), f + L.length, (running f L).filter (· != own)⟩

section
variable {c : Nat → Nat} {k p : Nat} {w w' : World} {f : Int} {L : List Nat}
end
end Go.Proofs.YtnkjnclpakfgnaaGreatDoor
namespace Go.Proofs.YtnkjnclpakfgnaaGreatDoor
open Go.RowKit

def okAt (i c : Nat) : Bool := (decide (97 ≤ c) && decide (c ≤ 122)) || c == 95 || (decide (0 < i) && decide (48 ≤ c) && decide (c ≤ 57))
def byteAt8 (s : ByteArray) (i : Nat) : Nat := (s.get! i).toNat
def isName (s : ByteArray) : Bool := decide (1 ≤ s.size) && decide (s.size ≤ 20) && (List.range s.size).all fun i => okAt i (byteAt8 s i)

theorem isName_bad {s : ByteArray} {i : Nat} (hi : i < s.size) (h : okAt i (byteAt8 s i) = false) : isName s = false := by
  unfold isName
  have : ((List.range s.size).all fun i => okAt i (byteAt8 s i)) = false := by
    rw [List.all_eq_false]
    exact ⟨i, by simpa using hi, by simp [h]⟩
  rw [this, Bool.and_false]
theorem isName_good {s : ByteArray} (h : ∀ i, i < s.size → okAt i (byteAt8 s i) = true) : isName s = (decide (1 ≤ s.size) && decide (s.size ≤ 20)) := by
  unfold isName
  have : ((List.range s.size).all fun i => okAt i (byteAt8 s i)) = true := by
    rw [List.all_eq_true]
    exact fun i hi => h i (by simpa using hi)
  rw [this, Bool.and_true]
theorem byteAt8_get {s : ByteArray} {i : Nat} (h : i < s.size) : byteAt8 s i = (s[i]'h).toNat := by
  have := get_at s i h
  unfold byteAt8
  rw [Nat.add_zero] at this
  rw [this]
/-- The rune that stands there, and its width: of bytes below 128 the byte itself. -/
theorem rune_at (s : ByteArray) (pos : Nat) (h : pos < s.size) :
    1 ≤ (Utf8.decode s pos).2 ∧ ((Utf8.decode s pos).1 < 128 → (Utf8.decode s pos).2 = 1 ∧ byteAt8 s pos = (Utf8.decode s pos).1) ∧ (128 ≤ (Utf8.decode s pos).1 → 128 ≤ byteAt8 s pos) ∧ (Utf8.decode s pos).1 ≤ 2147483647 := by
  rw [byteAt8_get h]
  by_cases ha : (s[pos]'h).toNat < 128
  · rw [decode_ascii s pos h ha]
    exact ⟨Nat.le_refl _, fun _ => ⟨rfl, rfl⟩, fun e => absurd ha (by simpa using e), by simp only; omega⟩
  · obtain ⟨h1, h2⟩ := decode_high s pos h (by omega)
    exact ⟨h2, fun e => by omega, fun _ => by omega, decode_le s pos⟩

set_option maxHeartbeats 1000000 in
set_option maxRecDepth 100000 in
/-- book.Name. -/
theorem name_any (s : ByteArray) (w : World) (hsz : s.size ≤ 4611686018427387904) : Calls Tryz.prog 260 #[.string s] w fun e w' => e = .returned (.bool (isName s)) ∧ Below w.heap.size w w' := by
  obtain ⟨B, hB⟩ : ∃ B, B = isName s := ⟨_, rfl⟩
  rw [← hB]
  have HB := Lib.hid hB; clear hB
  go_enter Tryz.func260, Tryz.ntmps260
  go_wp2_with fail
  go_loopw [2] (fun v wr => ∃ pos : Nat, v = .bool false ∧ wr = w.iter s pos ∧ pos ≤ s.size ∧ ∀ i, i < pos → okAt i (byteAt8 s i) = true) (fun _ w' => s.size - w'.iterPos w.heap.size)
  case atStart => exact ⟨0, rfl, rfl, Nat.zero_le _, fun i hi => by omega⟩
  case round =>
    obtain ⟨pos, rfl, rfl, hpos, hok⟩ := hrel
    have HOK := Lib.hid hok; clear hok
    have hal : ∀ q, Below w.heap.size w (w.iter s q) := fun q => (Below.refl _ _).alloc (Nat.le_refl _) _
    by_cases hp : pos < s.size
    · obtain ⟨hw1, hlo, hhi, hle⟩ := rune_at s pos hp
      have hnx0 : ∀ ty, (Instr.next (.pointer (some ⟨w.heap.size, 0, none⟩)) true ty).run Tryz.prog (w.iter s pos) = _ := fun ty => run_next_any w s pos ty hp
      obtain ⟨r, hr⟩ : ∃ r, r = (Utf8.decode s pos).1 := ⟨_, rfl⟩
      obtain ⟨d, hd⟩ : ∃ d, d = (Utf8.decode s pos).2 := ⟨_, rfl⟩
      rw [← hr, ← hd] at hnx0
      rw [← hr] at hlo hhi hle
      rw [← hd] at hw1 hlo
      clear hr hd
      have hnx : ∀ ty, (Instr.next (.pointer (some ⟨w.heap.size, 0, none⟩)) true ty).run Tryz.prog (w.iter s pos) = .ok (.tuple #[.bool true, .int .i64 pos, .int .i32 (r : Int)]) (w.iter s (pos + d)) := hnx0
      clear hnx0
      have HLO := Lib.hid hlo; clear hlo
      have HHI := Lib.hid hhi; clear hhi
      have hbad : ¬ ((97 ≤ r ∧ r ≤ 122) ∨ r = 95 ∨ (0 < pos ∧ 48 ≤ r ∧ r ≤ 57)) → B = false := fun hn => by
        rw [HB.out]
        refine isName_bad hp ?_
        have hc : ¬ ((97 ≤ byteAt8 s pos ∧ byteAt8 s pos ≤ 122) ∨ byteAt8 s pos = 95 ∨ (0 < pos ∧ 48 ≤ byteAt8 s pos ∧ byteAt8 s pos ≤ 57)) := by
          by_cases h128 : r < 128
          · rw [(HLO.out h128).2]; exact hn
          · have := HHI.out (by omega)
            omega
        unfold okAt
        rw [Bool.eq_false_iff]
        intro h
        simp only [Bool.or_eq_true, Bool.and_eq_true, decide_eq_true_eq, beq_iff_eq] at h
        omega
      have HBAD := Lib.hid hbad; clear hbad
      have hgood : ((97 ≤ r ∧ r ≤ 122) ∨ r = 95 ∨ (0 < pos ∧ 48 ≤ r ∧ r ≤ 57)) → pos + d ≤ s.size ∧ (∀ i, i < pos + d → okAt i (byteAt8 s i) = true) := fun hg => by
        obtain ⟨h1, h2⟩ := HLO.out (by omega)
        subst h1
        refine ⟨by omega, fun i hi => ?_⟩
        by_cases e : i = pos
        · subst e
          unfold okAt
          simp only [Bool.or_eq_true, Bool.and_eq_true, decide_eq_true_eq, beq_iff_eq]
          omega
        · exact HOK.out i (by omega)
      have HGOOD := Lib.hid hgood; clear hgood
      by_cases c1 : 97 ≤ r ∧ r ≤ 122
      · obtain ⟨g1, g2⟩ := HGOOD.out (.inl c1)
        have c1a : (97 : Int) ≤ (r : Int) := by omega
        have c1b : (r : Int) ≤ 122 := by omega
        have G2 := Lib.hid g2; clear g2 c1
        go_wp2_with fail
        go_roundw
        case rel => exact ⟨pos + d, rfl, rfl, g1, G2.out⟩
        case measure => simp; omega
      by_cases c2 : r = 95
      · obtain ⟨g1, g2⟩ := HGOOD.out (.inr (.inl c2))
        have G2 := Lib.hid g2; clear g2 c1
        have c2a : ¬ (97 : Int) ≤ (r : Int) := by omega
        have c2b : decide ((97 : Int) ≤ (r : Int)) = false := by simp; omega
        have c2c : ((r : Int) == 95) = true := by rw [beq_iff_eq]; omega
        clear c2
        go_wp2_with fail
        go_roundw
        case rel => exact ⟨pos + d, rfl, rfl, g1, G2.out⟩
        case measure => simp; omega
      have c2c : ((r : Int) == 95) = false := by rw [beq_eq_false_iff_ne]; omega
      have hsplit : ((97 : Int) ≤ (r : Int) ∧ ¬ (r : Int) ≤ 122 ∧ decide ((97 : Int) ≤ (r : Int)) = true ∧ decide ((r : Int) ≤ 122) = false) ∨ (¬ (97 : Int) ≤ (r : Int) ∧ ¬ (97 : Int) ≤ (r : Int) ∧ decide ((97 : Int) ≤ (r : Int)) = false ∧ decide ((97 : Int) ≤ (r : Int)) = false) := by
        by_cases h : (97 : Int) ≤ (r : Int)
        · exact .inl ⟨h, by omega, by simp; omega, by simp; omega⟩
        · exact .inr ⟨h, h, by simp; omega, by simp; omega⟩
      have C1 := Lib.hid c1; have C2 := Lib.hid c2; clear c1 c2
      rcases hsplit with ⟨u1, u2, u3, u4⟩ | ⟨u1, u2, u3, u4⟩
      all_goals
        by_cases h0 : pos = 0
        · obtain rfl : B = false := HBAD.out (by have := C1.out; have := C2.out; omega)
          subst h0
          go_wp2_with fail
          go_ret
          exact ⟨rfl, hal _⟩
        · have h0a : ((pos : Int) == 0) = false := by rw [beq_eq_false_iff_ne]; omega
          have H0 := Lib.hid h0; clear h0
          by_cases h1 : (r : Int) < 48
          · obtain rfl : B = false := HBAD.out (by have := C1.out; have := C2.out; omega)
            have h1a : decide ((r : Int) < 48) = true := by simp; omega
            go_wp2_with fail
            go_ret
            exact ⟨rfl, hal _⟩
          · have h1a : decide ((r : Int) < 48) = false := by simp; omega
            by_cases h2 : (57 : Int) < (r : Int)
            · obtain rfl : B = false := HBAD.out (by have := C1.out; have := C2.out; omega)
              have h2a : decide ((57 : Int) < (r : Int)) = true := by simp; omega
              go_wp2_with fail
              go_ret
              exact ⟨rfl, hal _⟩
            · have h2a : decide ((57 : Int) < (r : Int)) = false := by simp; omega
              obtain ⟨g1, g2⟩ := HGOOD.out (.inr (.inr ⟨by have := H0.out; omega, by omega, by omega⟩))
              have G2 := Lib.hid g2; clear g2
              go_wp2_with fail
              go_roundw
              case rel => exact ⟨pos + d, rfl, rfl, g1, G2.out⟩
              case measure => simp; omega
    · have hpe : pos = s.size := by omega
      have hall := isName_good (s := s) (fun i hi => HOK.out i (by omega))
      rw [← HB.out] at hall
      have HALL := Lib.hid hall; clear hall
      have hnx : ∀ ty, (Instr.next (.pointer (some ⟨w.heap.size, 0, none⟩)) true ty).run Tryz.prog (w.iter s pos) = .ok (.tuple #[.bool false]) (w.iter s pos) := fun ty => run_next_end w s pos ty hp
      clear hpe
      by_cases h0 : s.size = 0
      · have hs1 : s.toList = [] := by
          rw [ByteArray.toList_eq]
          exact List.eq_nil_of_length_eq_zero (by simpa using h0)
        obtain rfl : B = false := by rw [HALL.out, h0]; rfl
        clear h0
        go_wp2_with fail
        go_ret
        exact ⟨rfl, hal _⟩
      · have hs1 : ¬ s.toList = [] := by
          rw [ByteArray.toList_eq]
          intro e
          have := congrArg List.length e
          simp at this
          exact h0 (by rw [this]; rfl)
        have hs2 : s.toList.isEmpty = false := by rw [List.isEmpty_eq_false_iff]; exact hs1
        by_cases h20 : s.size ≤ 20
        · obtain rfl : B = true := by rw [HALL.out]; simp; omega
          have h20a : (s.size : Int) ≤ 20 := by omega
          have h20b : decide ((s.size : Int) ≤ 20) = true := by simp; omega
          have h20c : decide (s.size ≤ 20) = true := by simp; omega
          go_wp2_with fail
          go_ret
          exact ⟨rfl, hal _⟩
        · obtain rfl : B = false := by rw [HALL.out]; simp; omega
          have h20a : ¬ (s.size : Int) ≤ 20 := by omega
          have h20b : decide ((s.size : Int) ≤ 20) = false := by simp; omega
          have h20c : decide (s.size ≤ 20) = false := by simp; omega
          go_wp2_with fail
          go_ret
          exact ⟨rfl, hal _⟩

end Go.Proofs.YtnkjnclpakfgnaaGreatDoor
namespace Go.Proofs.YtnkjnclpakfgnaaGreatDoor
open Go.RowKit

abbrev Cols := List (ByteArray × Int)
def colC (l : Cols) : List Value := l.flatMap fun x => [.string x.1, .int .u8 x.2]
/-- Columns in memory. -/
def ColsAt (w : World) (cv : Value) (l : Cols) : Prop := l ≠ [] ∧ l.length ≤ 8 ∧ w.ownsRow 0 235 2 cv l.length (colC l)

theorem colC_len (l : Cols) : (colC l).length = l.length * 2 := by
  induction l with
  | nil => rfl
  | cons x l ih => simp only [colC, List.flatMap_cons, List.length_append, List.length_cons, List.length_nil] at *; omega
theorem below_alloc (w : World) (o : Obj) : Below w.heap.size w (w.alloc o) := (Below.refl _ _).alloc (Nat.le_refl _) o
section
variable {w w' : World} {cv : Value} {l : Cols}
theorem ColsAt.upd {S : Nat → Prop} (h : ColsAt w cv l) (u : Upd S w w') (hs : ∀ b, cv.ownBlock = some b → ¬ S b) : ColsAt w' cv l := ⟨h.1, h.2.1, ownsRow_upd h.2.2 u hs⟩
theorem ColsAt.cells (h : ColsAt w cv l) : ∃ g cap, cv = .slice (some ⟨g, 0, none⟩) l.length cap ∧ g < w.heap.size ∧ ∀ j u, (colC l)[j]? = some u → w.cell? ⟨g, j, none⟩ = some u := by
  obtain ⟨h1, h2, h3⟩ := h
  have hp : 0 < (colC l).length := by rw [colC_len]; have := List.length_pos_iff.2 h1; omega
  obtain ⟨g, cap, rfl, _, _, _, hg⟩ := ownsRow_cell h3 (j := 0) (List.getElem?_eq_getElem hp)
  refine ⟨g, cap, rfl, hg, fun j u hj => ?_⟩
  obtain ⟨g', cap', e, c, _⟩ := ownsRow_cell h3 hj
  simp only [Value.slice.injEq, Option.some.injEq, Addr.mk.injEq] at e
  obtain ⟨⟨rfl, _⟩, _, rfl⟩ := e
  exact c

end
end Go.Proofs.YtnkjnclpakfgnaaGreatDoor
