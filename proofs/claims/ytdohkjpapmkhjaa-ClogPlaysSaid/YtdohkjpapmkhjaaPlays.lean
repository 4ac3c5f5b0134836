/-
  ClogPlays, the walk: the program's log beside the document's: whatever the script, both are alike at each step. The script lies in memory as three cells an element ('Script3').
-/
import Derived.Test.YtdohkjpapmkhjaaTwins
import Derived.Test.YtdohkjpapmkhjaaLawNine
namespace Go.Proofs.Ytdohkjpapmkhjaa
open Go.RowKit

/-- Both logs, apart, in memory made behind w0; what lay in w0 lies as it did. -/
structure Two (w0 : World) (c : Nat → Nat) (w : World) (vl : Value) (T1 : Tl) (vx : Value) (T2 : Tl) : Prop where
  l : PLog c 1 w vl T1
  x : PRef c 2 w vx T2
  col : ∀ b, b < w0.heap.size → c b = 0
  below : Below w0.heap.size w0 w

theorem below_drewN {n : Nat} {B : Nat} {w : World} : Below B w (w.drewN n) := ⟨rfl, rfl, rfl, Nat.le_refl _, fun _ _ => rfl⟩
theorem wrapu_lt (x : Int) : IntKind.u64.wrap x < 18446744073709551616 := by
  have e : IntKind.u64.wrap x = x % 18446744073709551616 := by simp [IntKind.wrap, IntKind.signed, IntKind.bits]
  rw [e]; omega
theorem PLog.run_le {c : Nat → Nat} {k : Nat} {w : World} {v : Value} {T : Tl} (h : PLog c k w v T) : (trun T).length ≤ 1099511627776 := by
  match T, h with
  | none, _ => simp [trun]
  | some (f, L), ⟨p, hv, h⟩ =>
    obtain ⟨h1, h2, _⟩ := h
    have := runTo_le f L L.length
    simp only [trun]
    have e : running f L = runTo f L L.length := rfl
    rw [e]; omega

section
variable {w0 : World} {c : Nat → Nat} {w w' : World} {vl vx : Value} {T1 T2 : Tl}
theorem Two.same (h : Two w0 c w vl T1 vx T2) (u : Below w.heap.size w w') : Two w0 c w' vl T1 vx T2 := ⟨h.l.same u, h.x.same u, h.col, h.below.trans (u.mono h.below.size)⟩
theorem Two.alloc (h : Two w0 c w vl T1 vx T2) (o : Obj) : Two w0 c (w.alloc o) vl T1 vx T2 := h.same ((Below.refl _ _).alloc (Nat.le_refl _) o)
theorem Two.drewN (h : Two w0 c w vl T1 vx T2) (n : Nat) : Two w0 c (w.drewN n) vl T1 vx T2 := ⟨h.l.drewN n, h.x.drewN n, h.col, h.below.trans below_drewN⟩
theorem Two.to {k : Nat} (h : Two w0 c w vl T1 vx T2) (hk : 0 < k) (u : Upd (fun b => c b = k) w w') : Below w0.heap.size w0 w' :=
  h.below.trans (u.below h.below.size (fun b hb e => by rw [h.col b hb] at e; omega))

theorem two_commit (h : Two w0 c w vl T1 vx T2) (x : Int) : Calls Try.prog 23 #[vl, .int .u64 x] w fun e w' => e = .returned (.int .i64 (terr T1 x)) ∧ ∃ c', Two w0 c' w' vl (tend T1 x 2) vx T2 := by
  refine (pcommit h.l x).mono fun e w' ⟨h1, h2, h3⟩ => ⟨h1, c, h2, h.x.upd h3 (fun b e e' => by omega), h.col, h.to (by decide) h3⟩
theorem two_abort (h : Two w0 c w vl T1 vx T2) (x : Int) : Calls Try.prog 25 #[vl, .int .u64 x] w fun e w' => e = .returned (.int .i64 (terr T1 x)) ∧ ∃ c', Two w0 c' w' vl (tend T1 x 3) vx T2 := by
  refine (pabort h.l x).mono fun e w' ⟨h1, h2, h3⟩ => ⟨h1, c, h2, h.x.upd h3 (fun b e e' => by omega), h.col, h.to (by decide) h3⟩
theorem two_end (h : Two w0 c w vl T1 vx T2) (x : Int) (hx : x < 18446744073709551616) (s : Nat) : Calls Try.prog 24 #[vx, .int .u64 x, .int .i64 s] w fun e w' => e = .returned (.int .i64 (terr T2 x)) ∧ ∃ c', Two w0 c' w' vl T1 vx (tend T2 x s) := by
  refine (qend h.x x hx s).mono fun e w' ⟨h1, h2, h3⟩ => ⟨h1, c, h.l.upd h3 (fun b e e' => by omega), h2, h.col, h.to (by decide) h3⟩
theorem two_end2 (h : Two w0 c w vl T1 vx T2) (x : Int) (hx : x < 18446744073709551616) : Calls Try.prog 24 #[vx, .int .u64 x, .int .i64 2] w fun e w' => e = .returned (.int .i64 (terr T2 x)) ∧ ∃ c', Two w0 c' w' vl T1 vx (tend T2 x 2) := two_end h x hx 2
theorem two_end3 (h : Two w0 c w vl T1 vx T2) (x : Int) (hx : x < 18446744073709551616) : Calls Try.prog 24 #[vx, .int .u64 x, .int .i64 3] w fun e w' => e = .returned (.int .i64 (terr T2 x)) ∧ ∃ c', Two w0 c' w' vl T1 vx (tend T2 x 3) := two_end h x hx 3
theorem col_zero {B n k : Nat} {c : Nat → Nat} (h : ∀ b, b < B → c b = 0) (hn : B ≤ n) : ∀ b, b < B → col c n k b = 0 := fun b hb => by rw [col_old (by omega)]; exact h b hb
theorem two_begin (h : Two w0 c w vl T1 vx T2) : Calls Try.prog 18 #[vl] w fun e w' => e = .returned (.tuple #[.int .u64 (tbx T1), .int .i64 (tbe T1)]) ∧ ∃ c', Two w0 c' w' vl (tbegin T1) vx T2 := by
  refine (pbegin h.l).mono fun e w' ⟨h1, h2, h3⟩ => ⟨h1, _, h2, (h.x.recol (c' := col c w.heap.size 1) (fun b hb => col_old hb)).upd h3 ?_, col_zero h.col h.below.size, h.to (by decide) h3⟩
  intro b e e'
  unfold Ytdohkjpapmkhjaa.col at e
  split at e <;> omega
theorem two_rbegin (h : Two w0 c w vl T1 vx T2) : Calls Try.prog 26 #[vx] w fun e w' => e = .returned (.tuple #[.int .u64 (tbx T2), .int .i64 (tbe T2)]) ∧ ∃ c', Two w0 c' w' vl T1 vx (tbegin T2) := by
  refine (qbegin h.x).mono fun e w' ⟨h1, h2, h3⟩ => ⟨h1, _, (h.l.recol (c' := col c w.heap.size 2) (fun b hb => col_old hb)).upd h3 ?_, h2, col_zero h.col h.below.size, h.to (by decide) h3⟩
  intro b e e'
  unfold Ytdohkjpapmkhjaa.col at e
  split at e <;> omega
theorem two_all (h : Two w0 c w vl T1 vx T2) : Calls Try.prog 19 #[vl] w fun e w' => ∃ r, e = .returned r ∧ w'.ownsRow w.heap.size 23 1 r (trun T1).length (u64s (trun T1)) ∧ Two w0 c w' vl T1 vx T2 := by
  refine (pall h.l).mono fun e w' ⟨r, h1, h2, h3⟩ => ⟨r, h1, h2, h.same h3⟩
theorem two_rall (h : Two w0 c w vl T1 vx T2) : Calls Try.prog 30 #[vx] w fun e w' => ∃ r, e = .returned r ∧ w'.ownsRow w.heap.size 23 1 r (trun T2).length (u64s (trun T2)) ∧ Two w0 c w' vl T1 vx T2 ∧ Below w.heap.size w w' := by
  refine (qall h.x).mono fun e w' ⟨r, h1, h2, h3⟩ => ⟨r, h1, h2, h.same h3, h3⟩
end

def tnew (f : Int) : Tl := if 1 ≤ f ∧ f ≤ 1099511627776 then some (f, []) else none
def tnewe (f : Int) : Int := if 1 ≤ f ∧ f ≤ 1099511627776 then 0 else 1
theorem pnew (f : Int) (w : World) (h0 : 0 ≤ f) (c : Nat → Nat) (k : Nat) :
    Calls Try.prog 17 #[.int .u64 f] w fun e w' => ∃ a, e = .returned (.tuple #[.pointer a, .int .i64 (tnewe f)]) ∧ (a = none ↔ tnew f = none) ∧ PLog (col c w.heap.size k) k w' (.pointer a) (tnew f) ∧ Below w.heap.size w w' := by
  by_cases h : 1 ≤ f ∧ f ≤ 1099511627776
  · refine (new_ok f w h.1 h.2 c k).mono fun e w' ⟨h1, h2, h3⟩ => ⟨some ⟨w.heap.size, 0, none⟩, ?_, ?_, ?_, h3⟩
    · rw [tnewe, if_pos h]; exact h1
    · rw [tnew, if_pos h]; simp
    · rw [tnew, if_pos h]; exact ⟨_, rfl, h2⟩
  · refine (new_bad f w (by omega)).mono fun e w' ⟨h1, h2⟩ => ⟨none, ?_, ?_, ?_, by subst h2; exact Below.refl _ _⟩
    · rw [tnewe, if_neg h]; exact h1
    · rw [tnew, if_neg h]; simp
    · rw [tnew, if_neg h]; exact rfl
theorem qnew (f : Int) (w : World) (h0 : 0 ≤ f) (c : Nat → Nat) (k : Nat) :
    Calls Try.prog 22 #[.int .u64 f] w fun e w' => ∃ a, e = .returned (.tuple #[.pointer a, .int .i64 (tnewe f)]) ∧ (a = none ↔ tnew f = none) ∧ PRef (col c w.heap.size k) k w' (.pointer a) (tnew f) ∧ Below w.heap.size w w' := by
  by_cases h : 1 ≤ f ∧ f ≤ 1099511627776
  · refine (rnew_ok f w h.1 h.2 c k).mono fun e w' ⟨h1, h2, h3⟩ => ⟨some ⟨w.heap.size, 0, none⟩, ?_, ?_, ?_, h3⟩
    · rw [tnewe, if_pos h]; exact h1
    · rw [tnew, if_pos h]; simp
    · rw [tnew, if_pos h]; exact ⟨_, rfl, h2⟩
  · refine (rnew_bad f w (by omega)).mono fun e w' ⟨h1, h2⟩ => ⟨none, ?_, ?_, ?_, by subst h2; exact Below.refl _ _⟩
    · rw [tnewe, if_neg h]; exact h1
    · rw [tnew, if_neg h]; simp
    · rw [tnew, if_neg h]; exact rfl

/-- Elements of three cells: a uint8, a uint64, a bool. -/
def Script3 (w : World) (a : Option Addr) (len : Nat) : Prop :=
  ∀ i, i < len → ∃ b off d x n, a = some ⟨b, off, none⟩ ∧ b < w.heap.size ∧ w.cell? ⟨b, off + i * 3, none⟩ = some (.int .u8 d) ∧ w.cell? ⟨b, off + i * 3 + 1, none⟩ = some (.int .u64 x) ∧
    w.cell? ⟨b, off + i * 3 + 2, none⟩ = some (.bool n) ∧ 0 ≤ d ∧ d ≤ 255 ∧ 0 ≤ x ∧ x ≤ 18446744073709551615

set_option maxHeartbeats 1000000 in
set_option maxRecDepth 100000 in
theorem clogPlays_any (none : Bool) (f : Int) (a : Option Addr) (len cap : Nat) (w : World) (hf : 0 ≤ f) (hlen : len ≤ 9223372036854775807) (hs : Script3 w a len) :
    Calls Try.prog 4 #[.bool none, .int .u64 f, .slice a len cap] w fun e w' => e = .returned (.bool true) ∧ Below w.heap.size w w' := by
  have HS := Lib.hid hs; clear hs
  go_enter Try.func4, Try.ntmps4
  go_wp2_with fail
  refine (awake_nine w).mono ?_
  rintro e w1 ⟨rfl, b1⟩
  go_wp2_with fail
  refine (pnew f w1 hf (fun _ => 0) 1).mono ?_
  rintro e w2 ⟨al, rfl, hal, hl2, b2⟩
  go_wp2_with fail
  refine (qnew f w2 hf (col (fun _ => 0) w1.heap.size 1) 2).mono ?_
  rintro e w3 ⟨ax, rfl, hax, hx3, b3⟩
  have hT : ∃ vl vx T c, Two w1 c w3 vl T vx T ∧ ((none = true ∧ vl = .pointer Option.none ∧ vx = .pointer Option.none) ∨ (none = false ∧ vl = .pointer al ∧ vx = .pointer ax)) := by
    cases none
    · exact ⟨_, _, tnew f, _, ⟨(hl2.recol (fun b hb => col_old hb)).same b3, hx3, fun b hb => by rw [col_old (Nat.lt_of_lt_of_le hb b2.size), col_old hb], b2.trans (b3.mono b2.size)⟩, .inr ⟨rfl, rfl, rfl⟩⟩
    · exact ⟨_, _, Option.none, fun _ => 0, ⟨rfl, rfl, fun _ _ => rfl, b2.trans (b3.mono b2.size)⟩, .inl ⟨rfl, rfl, rfl⟩⟩
  obtain ⟨vl, vx, T, c, h2, hv⟩ := hT
  have hq : (al = Option.none ↔ ax = Option.none) := hal.trans hax.symm
  clear hl2 hx3 b2 b3 hal hax
  have he : (tnewe f != tnewe f) = false := by simp
  have hdec : (!(al.isNone == ax.isNone)) = false := by
    cases al with
    | none => rw [hq.1 rfl]; rfl
    | some p =>
      cases ax with
      | none => exact absurd (hq.2 rfl) (by simp)
      | some q => rfl
  clear hq
  cases none
  all_goals
    have HV := Lib.hid hv; clear hv
    go_wp2_with fail
    obtain ⟨rfl, rfl⟩ : vl = _ ∧ vx = _ := by simpa using HV.out
    clear HV he hdec
    go_loopw [45] (fun i wr => ∃ (j : Nat) (T : Tl) (c : Nat → Nat), j ≤ len ∧ i = .int .i64 j ∧ Two w1 c wr _ T _ T) (fun i _ => len - (intOf i).toNat)
    case atStart => exact ⟨0, T, c, Nat.zero_le _, rfl, h2⟩
    case round =>
      clear h2
      obtain ⟨j, T, c, hj, rfl, h2⟩ := hrel
      by_cases hlt : j < len
      · obtain ⟨b, off, d, x, n, ha, hb, e0, e1, e2, d0, d1, x0, x1⟩ := HS.out j hlt
        subst ha
        have hBw := b1.trans (h2.below.mono b1.size)
        have e0' := (hBw.cell (p := ⟨b, off + j * 3, Option.none⟩) hb).trans e0
        have e1' := (hBw.cell (p := ⟨b, off + j * 3 + 1, Option.none⟩) hb).trans e1
        have e2' := (hBw.cell (p := ⟨b, off + j * 3 + 2, Option.none⟩) hb).trans e2
        clear e0 e1 e2 hBw
        by_cases h60 : j < 60
        · have hj64 : j < 9223372036854775807 := by omega
          cases n <;>
          go_wp2_with (first
            | (go_at_call 23; (with_reducible refine (two_commit (h2.alloc _) _).mono ?_); rintro e wa ⟨rfl, ca, h2a⟩)
            | (go_at_call 25; (with_reducible refine (two_abort (h2.alloc _) _).mono ?_); rintro e wa ⟨rfl, ca, h2a⟩)
            | (go_at_call 18; (with_reducible refine (two_begin (h2.alloc _)).mono ?_); rintro e wa ⟨rfl, ca, h2a⟩)
            | (go_at_call 24; (with_reducible refine (two_end2 h2a _ (by first | omega | exact wrapu_lt _)).mono ?_); rintro e wb ⟨rfl, cb, h2b⟩)
            | (go_at_call 24; (with_reducible refine (two_end3 h2a _ (by first | omega | exact wrapu_lt _)).mono ?_); rintro e wb ⟨rfl, cb, h2b⟩)
            | (go_at_call 26; (with_reducible refine (two_rbegin h2a).mono ?_); rintro e wb ⟨rfl, cb, h2b⟩))
          all_goals
            go_wp2_with (first
              | (go_at_call 21; (with_reducible refine (pstate (Two.l (by first | exact h2b | exact h2b.drewN _)) _).mono ?_); rintro e wc ⟨rfl, nc, rfl⟩)
              | (go_at_call 27; (with_reducible refine (qstate (Two.x (by first | exact h2b | exact h2b.drewN _)) _ (by first | omega | exact wrapu_lt _)).mono ?_); rintro e wc ⟨rfl, nc, rfl⟩)
              | (go_at_call 20; (with_reducible refine (pnext (Two.l (by first | exact h2b | exact h2b.drewN _))).mono ?_); rintro e wc ⟨rfl, nc, rfl⟩)
              | (go_at_call 28; (with_reducible refine (qnext (Two.x (by first | exact h2b | exact h2b.drewN _))).mono ?_); rintro e wc ⟨rfl, nc, rfl⟩)
              | (go_at_call 19; (with_reducible refine (two_all (by first | exact h2b | exact h2b.drewN _)).mono ?_); rintro e wd ⟨r1, rfl, o1, h2d⟩)
              | (go_at_call 30; (with_reducible refine (two_rall h2d).mono ?_); rintro e we ⟨r2, rfl, o2, h2e, bwe⟩)
              | (go_at_call 29; (with_reducible refine (same_eq _ _ _ _ _ _ h2e.l.run_le (ownsRow_upd (S := fun _ => False) o1 (Upd.same bwe) (fun _ _ x => x)) o2).mono ?_); rintro e wf ⟨rfl, nf, rfl⟩))
            go_roundw
            case rel => exact ⟨j + 1, _, _, by omega, by go_num, h2e.drewN _⟩
            case measure => simp [intOf]; omega
        · have hj60 : ¬ (j : Int) < 60 := by omega
          have hj64 : j < 9223372036854775807 := by omega
          go_wp2_with fail
          go_loopw [127] (fun i wr => ∃ m : Nat, m ≤ 62 ∧ i = .int .u64 m ∧ Two w1 c wr _ T _ T) (fun i _ => 62 - (intOf i).toNat)
          case atStart => exact ⟨0, Nat.zero_le _, rfl, h2.alloc _⟩
          case round =>
            clear h2
            obtain ⟨m, hm, rfl, h3⟩ := hrel
            by_cases hm2 : m < 62
            · have hm3 : (m : Int) < 62 := by omega
              go_wp2_with (first
                | (go_at_call 21; (with_reducible refine (pstate (Two.l h3) _).mono ?_); rintro e wc ⟨rfl, nc, rfl⟩)
                | (go_at_call 27; (with_reducible refine (qstate (Two.x (h3.drewN _)) _ (by first | omega | exact wrapu_lt _)).mono ?_); rintro e wc ⟨rfl, nd, rfl⟩))
              go_roundw
              case rel => exact ⟨m + 1, by omega, by go_num, h3.drewN _⟩
              case measure => simp [intOf]; omega
            · have hm3 : ¬ (m : Int) < 62 := by omega
              go_wp2_with fail
              go_ret
              exact ⟨rfl, b1.trans (h3.below.mono b1.size)⟩
      · have hjl : ¬ (j : Int) < len := by omega
        go_wp2_with fail
        go_loopw [127] (fun i wr => ∃ m : Nat, m ≤ 62 ∧ i = .int .u64 m ∧ Two w1 c wr _ T _ T) (fun i _ => 62 - (intOf i).toNat)
        case atStart => exact ⟨0, Nat.zero_le _, rfl, h2⟩
        case round =>
          clear h2
          obtain ⟨m, hm, rfl, h3⟩ := hrel
          by_cases hm2 : m < 62
          · have hm3 : (m : Int) < 62 := by omega
            go_wp2_with (first
              | (go_at_call 21; (with_reducible refine (pstate (Two.l h3) _).mono ?_); rintro e wc ⟨rfl, nc, rfl⟩)
              | (go_at_call 27; (with_reducible refine (qstate (Two.x (h3.drewN _)) _ (by first | omega | exact wrapu_lt _)).mono ?_); rintro e wc ⟨rfl, nd, rfl⟩))
            go_roundw
            case rel => exact ⟨m + 1, by omega, by go_num, h3.drewN _⟩
            case measure => simp [intOf]; omega
          · have hm3 : ¬ (m : Int) < 62 := by omega
            go_wp2_with fail
            go_ret
            exact ⟨rfl, b1.trans (h3.below.mono b1.size)⟩
end Go.Proofs.Ytdohkjpapmkhjaa
