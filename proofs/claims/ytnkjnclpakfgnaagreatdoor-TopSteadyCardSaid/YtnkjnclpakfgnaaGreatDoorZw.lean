/- The statements at the beginning, in their order. · Statements and rounds, one behind the other. · Blocks that a caller of the desk holds. No conditions. -/
import Derived.Test.YtnkjnclpakfgnaaGreatDoorZs
import Derived.Test.YtnkjnclpakfgnaaGreatDoorZt
import Derived.Test.YtnkjnclpakfgnaaGreatDoorZd
namespace Go.Proofs.YtnkjnclpakfgnaaGreatDoor
namespace X
open Go.RowKit
noncomputable def sp2 (i : Nat) : Option St := [c0 2, c1 2, stS 0 2 0 false [] [] [], stS 1 1 0 false [[1]] [(0, 0)] []].getD i none
theorem sp2_ok : ∀ i, i < 3 → ∃ e, parseB e = true ∧ e.q = qS i ∧ stepB e (sp2 i) (sp2 (i + 1)) = true
  | 0, _ => ⟨eT, eT_ok, rfl, tab2⟩
  | 1, _ => ⟨eI, eI_ok, rfl, idx2⟩
  | 2, _ => ⟨eN0, eN0_ok, rfl, ins2_0⟩
  | _ + 3, h => absurd h (by omega)
noncomputable def sp3 (i : Nat) : Option St := [c0 3, c1 3, stS 0 3 0 false [] [] [], stS 1 2 0 false [[1]] [(0, 0)] [], stS 2 2 0 false [[1, 2]] [(0, 0), (0, 1)] [], stS 3 2 0 false [[1, 2, 3]] [(0, 0), (0, 1), (0, 2)] [], stS 4 2 0 false [[1, 2, 3, 4]] [(0, 0), (0, 1), (0, 2), (0, 3)] [], stS 5 2 0 false [[1, 2, 3, 4, 5]] [(0, 0), (0, 1), (0, 2), (0, 3), (0, 4)] [], stS 6 2 0 false [[1, 2, 3, 4, 5, 6]] [(0, 0), (0, 1), (0, 2), (0, 3), (0, 4), (0, 5)] [], stS 7 2 0 false [[1, 2, 3, 4, 5, 6, 7]] [(0, 0), (0, 1), (0, 2), (0, 3), (0, 4), (0, 5), (0, 6)] [], stS 8 2 0 false [[1, 2, 3, 4, 5, 6, 7, 8]] [(0, 0), (0, 1), (0, 2), (0, 3), (0, 4), (0, 5), (0, 6), (0, 7)] [], stS 9 2 0 true [[1, 2, 3, 4, 5, 6, 7, 8, 9]] [(0, 0), (0, 1), (0, 2), (0, 3)] [(0, 4), (0, 5), (0, 6), (0, 7), (0, 8)], stS 10 1 0 true [[1, 2, 3, 4, 5, 6, 7, 8, 9], [10]] [(0, 0), (0, 1), (0, 2), (0, 3)] [(0, 4), (0, 5), (0, 6), (0, 7), (0, 8), (1, 0)]].getD i none
theorem sp3_ok : ∀ i, i < 12 → ∃ e, parseB e = true ∧ e.q = qS i ∧ stepB e (sp3 i) (sp3 (i + 1)) = true
  | 0, _ => ⟨eT, eT_ok, rfl, tab3⟩
  | 1, _ => ⟨eI, eI_ok, rfl, idx3⟩
  | 2, _ => ⟨eN0, eN0_ok, rfl, ins3_0⟩
  | 3, _ => ⟨eN1, eN1_ok, rfl, ins3_1⟩
  | 4, _ => ⟨eN2, eN2_ok, rfl, ins3_2⟩
  | 5, _ => ⟨eN3, eN3_ok, rfl, ins3_3⟩
  | 6, _ => ⟨eN4, eN4_ok, rfl, ins3_4⟩
  | 7, _ => ⟨eN5, eN5_ok, rfl, ins3_5⟩
  | 8, _ => ⟨eN6, eN6_ok, rfl, ins3_6⟩
  | 9, _ => ⟨eN7, eN7_ok, rfl, ins3_7⟩
  | 10, _ => ⟨eN8, eN8_ok, rfl, ins3_8⟩
  | 11, _ => ⟨eN9, eN9_ok, rfl, ins3_9⟩
  | _ + 12, h => absurd h (by omega)
noncomputable def sB (k i : Nat) : Option St := match k with
  | 1 => sp2 i
  | _ => sp3 i
theorem sB_step (k i : Nat) (h1 : 1 ≤ k) (h2 : k ≤ 10) (hi : i < k + 2) : ∃ e, parseB e = true ∧ e.q = qS i ∧ stepB e (sB k i) (sB k (i + 1)) = true := by
  match k, h1, h2 with
  | 1, _, _ => exact sp2_ok i hi
  | 2, _, _ => exact sp3_ok i (by omega)
  | 3, _, _ => exact sp3_ok i (by omega)
  | 4, _, _ => exact sp3_ok i (by omega)
  | 5, _, _ => exact sp3_ok i (by omega)
  | 6, _, _ => exact sp3_ok i (by omega)
  | 7, _, _ => exact sp3_ok i (by omega)
  | 8, _, _ => exact sp3_ok i (by omega)
  | 9, _, _ => exact sp3_ok i (by omega)
  | 10, _, _ => exact sp3_ok i (by omega)
  | k + 11, _, h => omega
theorem sB_new (k : Nat) (h1 : 1 ≤ k) (h2 : k ≤ 10) : newSB (2 * k) (sB k 0) = true := by
  match k, h1, h2 with
  | 1, _, _ => exact new1
  | 2, _, _ => exact new2
  | 3, _, _ => exact new3
  | 4, _, _ => exact new4
  | 5, _, _ => exact new5
  | 6, _, _ => exact new6
  | 7, _, _ => exact new7
  | 8, _, _ => exact new8
  | 9, _, _ => exact new9
  | 10, _, _ => exact new10
  | k + 11, _, h => omega
theorem sB_re (k : Nat) (all : Bool) (h1 : 1 ≤ k) (h2 : k ≤ 10) : reB (sB k (k + 2)) (chS k all 0) = true ∧ ∀ y, chS k all 0 = some y → Fix1 y.m := by
  match k, all, h1, h2 with
  | 1, true, _, _ => exact ⟨re1, fy0⟩
  | 1, false, _, _ => exact ⟨re1, fy0⟩
  | 2, true, _, _ => exact ⟨re2, fy2⟩
  | 2, false, _, _ => exact ⟨re2, fy2⟩
  | 3, true, _, _ => exact ⟨re3, fy9⟩
  | 3, false, _, _ => exact ⟨re3, fy9⟩
  | 4, true, _, _ => exact ⟨re4, fy22⟩
  | 4, false, _, _ => exact ⟨re4, fy22⟩
  | 5, true, _, _ => exact ⟨re5, fy43⟩
  | 5, false, _, _ => exact ⟨re5, fy43⟩
  | 6, true, _, _ => exact ⟨re6, fy70⟩
  | 6, false, _, _ => exact ⟨re6, fy70⟩
  | 7, true, _, _ => exact ⟨re7, fy97⟩
  | 7, false, _, _ => exact ⟨re7, fy97⟩
  | 8, true, _, _ => exact ⟨re8, fy124⟩
  | 8, false, _, _ => exact ⟨re8, fy124⟩
  | 9, true, _, _ => exact ⟨re9, fy151⟩
  | 9, false, _, _ => exact ⟨re9, fy151⟩
  | 10, true, _, _ => exact ⟨re10, fy178⟩
  | 10, false, _, _ => exact ⟨re10, fy178⟩
  | k + 11, _, _, h => omega
end X
end Go.Proofs.YtnkjnclpakfgnaaGreatDoor
namespace Go.Proofs.YtnkjnclpakfgnaaGreatDoor
namespace X
open Go.RowKit
set_option maxRecDepth 100000

def SAtO (N : Int) (K : Keep) (o : Option St) (db : Nat) (w : World) : Prop := ∃ y, o = some y ∧ SAt N K y db w
def StO (N : Int) (K : Keep) (o : Option St) (db : Nat) (v : Int) (w : World) : Prop := ∃ y, o = some y ∧ StAt N K y db v w
/-- What b of row 0 says behind i rounds. -/
def vI (k : Nat) (all : Bool) (i : Nat) : Nat := if all then i else i / k
section
variable {N : Int} {K : Keep} {db : Nat} {w : World} {k i : Nat} {all : Bool} {S : ByteArray}
theorem start_step (h1 : 1 ≤ k) (h2 : k ≤ 10) (hi : i < k + 2) (h : SAtO N K (sB k i) db w) (hN : N + 1 ≤ 1099511627776) (hS : bytesN S = qS i) :
    Calls Tryz.prog 17 #[.pointer (some ⟨db, 0, none⟩), .int .i64 0, .string S] w fun e w' => (∃ x1 x2 x3, O3 x1 x2 x3 ∧ e = .returned (.tuple #[.agg #[.int .i64 0, x1, x2, x3], .int .i64 0])) ∧ SAtO (N + 1) K (sB k (i + 1)) db w' := by
  obtain ⟨e, he, hq, hb⟩ := sB_step k i h1 h2 hi
  obtain ⟨x, y, hx, hy, hc⟩ := stepB_ok he hb
  obtain ⟨z, hz, hat⟩ := h
  rw [hx] at hz; cases hz
  exact (hc hat hN (hS.trans hq.symm)).mono fun e w' ⟨a, b⟩ => ⟨a, y, hy, b⟩
theorem start_re (h1 : 1 ≤ k) (h2 : k ≤ 10) (h : SAtO N K (sB k (k + 2)) db w) (hN : N ≤ 1099511627776) : StO N K (chS k all 0) db 0 w := by
  obtain ⟨hb, hf⟩ := sB_re k all h1 h2
  obtain ⟨x, y, hx, hy, hc⟩ := reB_ok hb hf
  obtain ⟨z, hz, hat⟩ := h
  rw [hx] at hz; cases hz
  exact ⟨y, hy, hc hat hN⟩
theorem round_step (h1 : 1 ≤ k) (h2 : k ≤ 10) (hi : i < 24) {v : Int} (h : StO N K (chS k all i) db v w) (hN : N + 1 ≤ 1099511627776) (hv : 0 ≤ v) (hv2 : v ≤ 900) (hS : bytesN S = chQ k all i) :
    Calls Tryz.prog 17 #[.pointer (some ⟨db, 0, none⟩), .int .i64 0, .string S] w fun e w' => (∃ x1 x2 x3, O3 x1 x2 x3 ∧ e = .returned (.tuple #[.agg #[.int .i64 0, x1, x2, x3], .int .i64 0])) ∧ Swp db 60 w' (StO (N + 1) K (chS k all (i + 1)) db (v + stp (chD k all i))) := by
  obtain ⟨⟨e, he, hq, hb⟩, hf⟩ := ch_rd k all i h1 h2 hi
  obtain ⟨x, y, hx, hy, hc⟩ := rdE_ok he hb hf
  obtain ⟨z, hz, hat⟩ := h
  rw [hx] at hz; cases hz
  refine (hc hat hN hv hv2 (hS.trans hq.symm)).mono fun e w' ⟨a, b, c, o, d, s⟩ => ⟨⟨a, b, c, o, d⟩, ?_⟩
  exact Swp.mono s fun w2 q => ⟨y, hy, q⟩
theorem sel_step (h1 : 1 ≤ k) (h2 : k ≤ 10) (hi : i < 24) {v : Int} (h : StO N K (chS k all (i + 1)) db v w) (hS : bytesN S = eS.q) :
    Calls Tryz.prog 17 #[.pointer (some ⟨db, 0, none⟩), .int .i64 0, .string S] w fun e w' => ∃ b1 cap1 b2 cap2 x1 x2, O3 x1 x2 x2 ∧ e = .returned (.tuple #[.agg #[.int .i64 0, x1, .slice (some ⟨b1, 0, none⟩) 1 cap1, x2], .int .i64 0]) ∧
        w'.cell? ⟨b1, 0, none⟩ = some (.slice (some ⟨b2, 0, none⟩) 2 cap2) ∧ w'.cell? ⟨b2, 1, none⟩ = some (.int .i64 (k * v + chC k all (i + 1) : Int)) ∧ w'.cell? ⟨b2, 5, none⟩ = some (.int .i64 k) ∧ ∃ (E1 : Env) (H1 : T O) (n1 : Nat) (m1 : MM), Sim (IT N) K E1 H1 n1 m1 w' ∧ str3 H1 = true := by
  obtain ⟨x, hx, hc⟩ := selB_ok (ch_sel k all i h1 h2 hi)
  obtain ⟨z, hz, hat⟩ := h
  rw [hx] at hz; cases hz
  exact hc hat hS
end
theorem vI_zero (k : Nat) (all : Bool) : vI k all 0 = 0 := by unfold vI; split <;> simp
theorem vI_step (k : Nat) (all : Bool) (i : Nat) (_ : 1 ≤ k) : (vI k all i : Int) + stp (chD k all i) = vI k all (i + 1) := by
  unfold vI chD stp
  cases all with
  | true => simp
  | false =>
    simp only [Bool.false_eq_true, ↓reduceIte]
    rw [Nat.succ_div]
    by_cases h : (i + 1) % k = 0
    · simp [h, Nat.dvd_of_mod_eq_zero h]
    · simp [h, show ¬ k ∣ i + 1 from fun d => h (Nat.mod_eq_zero_of_dvd d)]
theorem vI_le (k : Nat) (all : Bool) (i : Nat) : vI k all i ≤ i := by
  unfold vI; split
  · exact Nat.le_refl _
  · exact Nat.div_le_self _ _
theorem sum_all (k i : Nat) : ((k : Int) * vI k true i + chC k true i : Int) = i * k := by
  simp [vI, chC, Int.mul_comm]
theorem sum_one (k i : Nat) : ((k : Int) * vI k false i + chC k false i : Int) = i := by
  have := Nat.div_add_mod i k
  simp only [vI, chC, Bool.false_eq_true, ↓reduceIte]
  exact_mod_cast this
end X
end Go.Proofs.YtnkjnclpakfgnaaGreatDoor
namespace Go.Proofs.YtnkjnclpakfgnaaGreatDoor
namespace X
open Go.RowKit
set_option maxRecDepth 100000

/-- The blocks from n on, as w has them, stay too. -/
def Keep.lock (K : Keep) (n : Nat) (w : World) : Keep := { K with G := fun b => if n ≤ b ∧ b < w.heap.size then w.heap[b]? else K.G b }
theorem Sim.lock {I : Inv} {K : Keep} {E : Env} {H : T O} {nx : Nat} {m : I.M} {w0 w : World} (h : Sim I K E H nx m w0) (hB : Below w0.heap.size w0 w) : Sim I (K.lock w0.heap.size w) E H nx m w := by
  have hS := h.below hB
  have hl : ∀ {b}, b < w0.heap.size → (K.lock w0.heap.size w).G b = K.G b := fun {b} hb => by
    show (if w0.heap.size ≤ b ∧ b < w.heap.size then w.heap[b]? else K.G b) = K.G b
    rw [if_neg (by omega)]
  obtain ⟨F, a, b, c⟩ := h.inv
  obtain ⟨F2, a2, b2, c2⟩ := hS.inv
  refine hS.reK rfl rfl rfl hS.size (fun g ob hg => ?_) (fun {id o g c} l e => ?_) ⟨F, I.loc a (Env.le.refl E).sub rfl hB.size (fun g hg => hB.block g (I.lt a hg)), fun g hg => (hl (I.lt a hg)).trans (b g hg), c⟩
  · have hg : (if w0.heap.size ≤ g ∧ g < w.heap.size then w.heap[g]? else K.G g) = some ob := hg
    split at hg
    · exact hg
    · exact hS.frame hg
  · obtain ⟨x, hx, _⟩ := h.at l e
    exact (hl (lt_of_block hx)).trans (h.apart l e)
theorem Old.lock {W : World} {K : Keep} {n : Nat} {w : World} (h : Old W K) (hn : W.heap.size ≤ n) : Old W (K.lock n w) :=
  ⟨h.os, h.tape, h.output, h.size, fun b hb n1 n2 n3 => by
    show (if n ≤ b ∧ b < w.heap.size then w.heap[b]? else K.G b) = _
    rw [if_neg (by omega)]; exact h.G b hb n1 n2 n3⟩
section
variable {N : Int} {K : Keep} {db : Nat} {w w' : World} {o : Option St} {v : Int}
theorem SAtO.below (h : SAtO N K o db w) (hB : Below w.heap.size w w') : SAtO N K o db w' := by
  obtain ⟨y, hy, E, H, a, b, c⟩ := h
  exact ⟨y, hy, E, H, a, b.below hB, c⟩
theorem SAtO.lock (h : SAtO N K o db w) (hB : Below w.heap.size w w') : SAtO N (K.lock w.heap.size w') o db w' := by
  obtain ⟨y, hy, E, H, a, b, c⟩ := h
  exact ⟨y, hy, E, H, a, b.lock hB, c⟩
theorem SAtO.kept {n : Nat} {w0 : World} (h : SAtO N (K.lock n w0) o db w) {b : Nat} (h1 : n ≤ b) (h2 : b < w0.heap.size) : w.heap[b]? = w0.heap[b]? := by
  obtain ⟨y, hy, E, H, a, hS, c⟩ := h
  obtain ⟨x, hx⟩ : ∃ x, w0.heap[b]? = some x := ⟨_, Array.getElem?_eq_getElem h2⟩
  rw [hx]
  refine hS.frame (b := b) ?_
  show (if n ≤ b ∧ b < w0.heap.size then w0.heap[b]? else K.G b) = some x
  rw [if_pos ⟨h1, h2⟩]; exact hx
theorem SAtO.cell {n : Nat} {w0 : World} (h : SAtO N (K.lock n w0) o db w) {b i : Nat} (h1 : n ≤ b) (h2 : b < w0.heap.size) {u : Value} (hc : w0.cell? ⟨b, i, none⟩ = some u) : w.cell? ⟨b, i, none⟩ = some u := by
  have := h.kept h1 h2
  simpa [World.cell?, this] using hc
theorem StO.below (h : StO N K o db v w) (hB : Below w.heap.size w w') : StO N K o db v w' := by
  obtain ⟨y, hy, E, H, a, b, c⟩ := h
  exact ⟨y, hy, E, H, a, b.below hB, c⟩
end
theorem u8_lt {x : Int} (h : (Lit.int .u8 x).wf = true) : 0 ≤ x ∧ x < 256 := by
  simp [Lit.wf, IntKind.min, IntKind.max, IntKind.bits, IntKind.signed] at h
  omega
end X
end Go.Proofs.YtnkjnclpakfgnaaGreatDoor
