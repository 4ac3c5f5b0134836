/-
  A LOG, OR NONE: the contracts of both logs where the pointer may be nil. T: 'none' for nil, else first number and states.
-/
import Derived.Test.YtdohkjpapmkhjaaRefNine
namespace Go.Proofs.Ytdohkjpapmkhjaa
open Go.RowKit

abbrev Tl := Option (Int × List Nat)
def tst : Tl → Int → Nat | none, _ => 0 | some (f, L), x => stt f L x
def tnext : Tl → Int | none => 0 | some (f, L) => f + L.length
def tend : Tl → Int → Nat → Tl | none, _, _ => none | some (f, L), x, s => some (f, ended f L x s)
def terr : Tl → Int → Int | none, _ => 15 | some (f, L), x => endErr f L x
def tbegin : Tl → Tl | none => none | some (f, L) => if f + L.length ≤ 1099511627776 then some (f, L ++ [1]) else some (f, L)
def tbx : Tl → Int | none => 0 | some (f, L) => if f + L.length ≤ 1099511627776 then f + L.length else 0
def tbe : Tl → Int | none => 15 | some (f, L) => if f + L.length ≤ 1099511627776 then 0 else 12
def trun : Tl → List Int | none => [] | some (f, L) => running f L

def PLog (c : Nat → Nat) (k : Nat) (w : World) (v : Value) : Tl → Prop
  | none => v = .pointer none
  | some (f, L) => ∃ p, v = .pointer (some ⟨p, 0, none⟩) ∧ LogAt c k w p f L
def PRef (c : Nat → Nat) (k : Nat) (w : World) (v : Value) : Tl → Prop
  | none => v = .pointer none
  | some (f, L) => ∃ p, v = .pointer (some ⟨p, 0, none⟩) ∧ RefAt c k w p f L

section
variable {c : Nat → Nat} {k : Nat} {w w' : World} {v : Value} {T : Tl}

theorem PLog.upd {S : Nat → Prop} (h : PLog c k w v T) (u : Upd S w w') (hs : ∀ b, c b = k → ¬ S b) : PLog c k w' v T := by
  match T, h with
  | none, h => exact h
  | some (f, L), ⟨p, hv, h⟩ => exact ⟨p, hv, h.upd u hs⟩
theorem PLog.same (h : PLog c k w v T) (u : Below w.heap.size w w') : PLog c k w' v T := h.upd (S := fun _ => False) (Upd.same u) (fun _ _ x => x)
theorem PLog.drewN (h : PLog c k w v T) (n : Nat) : PLog c k (w.drewN n) v T := h.upd (S := fun _ => False) (Upd.of_drewN n) (fun _ _ x => x)
theorem PLog.recol {c' : Nat → Nat} (h : PLog c k w v T) (hc : ∀ b, b < w.heap.size → c' b = c b) : PLog c' k w v T := by
  match T, h with
  | none, h => exact h
  | some (f, L), ⟨p, hv, h⟩ => exact ⟨p, hv, h.recol hc⟩
theorem PLog.ptr (h : PLog c k w v T) : ∃ a, v = .pointer a := by
  match T, h with
  | none, h => exact ⟨_, h⟩
  | some (f, L), ⟨p, hv, h⟩ => exact ⟨_, hv⟩
theorem PRef.upd {S : Nat → Prop} (h : PRef c k w v T) (u : Upd S w w') (hs : ∀ b, c b = k → ¬ S b) : PRef c k w' v T := by
  match T, h with
  | none, h => exact h
  | some (f, L), ⟨p, hv, h⟩ => exact ⟨p, hv, h.upd u hs⟩
theorem PRef.same (h : PRef c k w v T) (u : Below w.heap.size w w') : PRef c k w' v T := h.upd (S := fun _ => False) (Upd.same u) (fun _ _ x => x)
theorem PRef.drewN (h : PRef c k w v T) (n : Nat) : PRef c k (w.drewN n) v T := h.upd (S := fun _ => False) (Upd.of_drewN n) (fun _ _ x => x)
theorem PRef.recol {c' : Nat → Nat} (h : PRef c k w v T) (hc : ∀ b, b < w.heap.size → c' b = c b) : PRef c' k w v T := by
  match T, h with
  | none, h => exact h
  | some (f, L), ⟨p, hv, h⟩ => exact ⟨p, hv, h.recol hc⟩
theorem PRef.ptr (h : PRef c k w v T) : ∃ a, v = .pointer a := by
  match T, h with
  | none, h => exact ⟨_, h⟩
  | some (f, L), ⟨p, hv, h⟩ => exact ⟨_, hv⟩

/-! ### the program's -/
theorem pstate (h : PLog c k w v T) (x : Int) : Calls Try.prog 21 #[v, .int .u64 x] w fun e w' => e = .returned (.int .i64 (tst T x)) ∧ ∃ n, w' = w.drewN n := by
  match T, h with
  | none, h0 => obtain rfl : v = .pointer none := h0; exact (state_nil x w).mono fun e w' ⟨h1, h2⟩ => ⟨h1, 0, h2⟩
  | some (f, L), ⟨p, hv, hl⟩ => subst hv; exact state_at hl x
theorem pnext (h : PLog c k w v T) : Calls Try.prog 20 #[v] w fun e w' => e = .returned (.int .u64 (tnext T)) ∧ ∃ n, w' = w.drewN n := by
  match T, h with
  | none, h0 => obtain rfl : v = .pointer none := h0; exact (next_nil w).mono fun e w' ⟨h1, h2⟩ => ⟨h1, 0, h2⟩
  | some (f, L), ⟨p, hv, hl⟩ => subst hv; exact next_at hl
theorem pall (h : PLog c k w v T) : Calls Try.prog 19 #[v] w fun e w' => ∃ r, e = .returned r ∧ w'.ownsRow w.heap.size 23 1 r (trun T).length (u64s (trun T)) ∧ Below w.heap.size w w' := by
  match T, h with
  | none, h0 => obtain rfl : v = .pointer none := h0; exact (all_nil w).mono fun e w' ⟨h1, h2⟩ => ⟨_, h1, by subst h2; exact World.ownsRow_nil _ _ _ _, by subst h2; exact Below.refl _ _⟩
  | some (f, L), ⟨p, hv, hl⟩ => subst hv; exact all_at hl
theorem pcommit (h : PLog c k w v T) (x : Int) : Calls Try.prog 23 #[v, .int .u64 x] w fun e w' => e = .returned (.int .i64 (terr T x)) ∧ PLog c k w' v (tend T x 2) ∧ Upd (fun b => c b = k) w w' := by
  match T, h with
  | none, h0 => obtain rfl : v = .pointer none := h0; exact (commit_nil x w).mono fun e w' ⟨h1, h2⟩ => ⟨h1, rfl, by subst h2; exact Upd.refl _ _⟩
  | some (f, L), ⟨p, hv, hl⟩ => subst hv; exact (commit_at hl x).mono fun e w' ⟨h1, h2, h3⟩ => ⟨h1, ⟨p, rfl, h2⟩, h3⟩
theorem pabort (h : PLog c k w v T) (x : Int) : Calls Try.prog 25 #[v, .int .u64 x] w fun e w' => e = .returned (.int .i64 (terr T x)) ∧ PLog c k w' v (tend T x 3) ∧ Upd (fun b => c b = k) w w' := by
  match T, h with
  | none, h0 => obtain rfl : v = .pointer none := h0; exact (abort_nil x w).mono fun e w' ⟨h1, h2⟩ => ⟨h1, rfl, by subst h2; exact Upd.refl _ _⟩
  | some (f, L), ⟨p, hv, hl⟩ => subst hv; exact (abort_at hl x).mono fun e w' ⟨h1, h2, h3⟩ => ⟨h1, ⟨p, rfl, h2⟩, h3⟩
theorem pbegin (h : PLog c k w v T) : Calls Try.prog 18 #[v] w fun e w' => e = .returned (.tuple #[.int .u64 (tbx T), .int .i64 (tbe T)]) ∧ PLog (col c w.heap.size k) k w' v (tbegin T) ∧ Upd (fun b => c b = k) w w' := by
  match T, h with
  | none, h0 => obtain rfl : v = .pointer none := h0; exact (begin_nil w).mono fun e w' ⟨h1, h2⟩ => ⟨h1, rfl, by subst h2; exact Upd.refl _ _⟩
  | some (f, L), ⟨p, hv, hl⟩ =>
    subst hv
    by_cases hf : f + L.length ≤ 1099511627776
    · refine (begin_at hl hf).mono fun e w' ⟨h1, h2, h3⟩ => ⟨?_, ?_, h3⟩
      · simp only [tbx, tbe, if_pos hf]; exact h1
      · simp only [tbegin, if_pos hf]; exact ⟨p, rfl, h2⟩
    · refine (begin_full hl (by omega)).mono fun e w' ⟨h1, n, h2⟩ => ?_
      subst h2
      refine ⟨?_, ?_, Upd.of_drewN n⟩
      · simp only [tbx, tbe, if_neg hf]; exact h1
      · simp only [tbegin, if_neg hf]; exact ⟨p, rfl, (hl.recol (fun b hb => col_old hb)).drewN n⟩

/-! ### the document's -/
theorem qstate (h : PRef c k w v T) (x : Int) (hx : x < 18446744073709551616) : Calls Try.prog 27 #[v, .int .u64 x] w fun e w' => e = .returned (.int .i64 (tst T x)) ∧ ∃ n, w' = w.drewN n := by
  match T, h with
  | none, h0 => obtain rfl : v = .pointer none := h0; exact rstate_nil x w
  | some (f, L), ⟨p, hv, hl⟩ => subst hv; exact rstate_at hl x hx
theorem qnext (h : PRef c k w v T) : Calls Try.prog 28 #[v] w fun e w' => e = .returned (.int .u64 (tnext T)) ∧ ∃ n, w' = w.drewN n := by
  match T, h with
  | none, h0 => obtain rfl : v = .pointer none := h0; exact (rnext_nil w).mono fun e w' ⟨h1, h2⟩ => ⟨h1, 0, h2⟩
  | some (f, L), ⟨p, hv, hl⟩ => subst hv; exact rnext_at hl
theorem qall (h : PRef c k w v T) : Calls Try.prog 30 #[v] w fun e w' => ∃ r, e = .returned r ∧ w'.ownsRow w.heap.size 23 1 r (trun T).length (u64s (trun T)) ∧ Below w.heap.size w w' := by
  match T, h with
  | none, h0 => obtain rfl : v = .pointer none := h0; exact (rall_nil w).mono fun e w' ⟨h1, h2⟩ => ⟨_, h1, by subst h2; exact World.ownsRow_nil _ _ _ _, by subst h2; exact Below.refl _ _⟩
  | some (f, L), ⟨p, hv, hl⟩ => subst hv; exact rall_at hl
theorem qend (h : PRef c k w v T) (x : Int) (hx : x < 18446744073709551616) (s : Nat) :
    Calls Try.prog 24 #[v, .int .u64 x, .int .i64 s] w fun e w' => e = .returned (.int .i64 (terr T x)) ∧ PRef c k w' v (tend T x s) ∧ Upd (fun b => c b = k) w w' := by
  match T, h with
  | none, h0 => obtain rfl : v = .pointer none := h0; exact (rend_nil x s w).mono fun e w' ⟨h1, n, h2⟩ => ⟨h1, rfl, by subst h2; exact Upd.of_drewN n⟩
  | some (f, L), ⟨p, hv, hl⟩ => subst hv; exact (rend_at hl x hx s).mono fun e w' ⟨h1, h2, h3⟩ => ⟨h1, ⟨p, rfl, h2⟩, h3⟩
theorem qbegin (h : PRef c k w v T) : Calls Try.prog 26 #[v] w fun e w' => e = .returned (.tuple #[.int .u64 (tbx T), .int .i64 (tbe T)]) ∧ PRef (col c w.heap.size k) k w' v (tbegin T) ∧ Upd (fun b => c b = k) w w' := by
  match T, h with
  | none, h0 => obtain rfl : v = .pointer none := h0; exact (rbegin_nil w).mono fun e w' ⟨h1, h2⟩ => ⟨h1, rfl, by subst h2; exact Upd.refl _ _⟩
  | some (f, L), ⟨p, hv, hl⟩ =>
    subst hv
    by_cases hf : f + L.length ≤ 1099511627776
    · refine (rbegin_at hl hf).mono fun e w' ⟨h1, h2, h3⟩ => ⟨?_, ?_, h3⟩
      · simp only [tbx, tbe, if_pos hf]; exact h1
      · simp only [tbegin, if_pos hf]; exact ⟨p, rfl, h2⟩
    · refine (rbegin_full hl (by omega)).mono fun e w' ⟨h1, n, h2⟩ => ?_
      subst h2
      refine ⟨?_, ?_, Upd.of_drewN n⟩
      · simp only [tbx, tbe, if_neg hf]; exact h1
      · simp only [tbegin, if_neg hf]; exact ⟨p, rfl, (hl.recol (fun b hb => col_old hb)).drewN n⟩
end
end Go.Proofs.Ytdohkjpapmkhjaa
