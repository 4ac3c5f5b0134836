/- All forgotten but the words' table; works. · Digits: run in the kernel; the words' table and the tables of utf8 as a world bears them at first, and at the end. No conditions. -/
import Derived.Test.YtnkjnclpakfgnaaGreatDoorMc7
namespace Go.Proofs.YtnkjnclpakfgnaaGreatDoor
namespace X
open Go.RowKit
set_option maxRecDepth 100000

noncomputable def mF (n : Nat) : MM := ⟨⟨0, 0, 0, []⟩, ⟨0, n, false, 0, 0, 0, [], []⟩, [], [], [], 0, [], []⟩
theorem goodF {n : Nat} {N : Int} {E : Env} {w : World} (h1 : U8 w) (h2 : 2 < w.heap.size) (hN : (n : Int) + 1 ≤ N) (hl : N ≤ 1099511627776) (hy : ∀ s, E.sy s = none) : (IT N).inv (mF n) E w (fun b => b = 1 ∨ b = 2) :=
  ⟨fun b => if b = 1 ∨ b = 2 then 6 else 0, 1, [],
    { fc := fun b => by by_cases h : b = 1 ∨ b = 2 <;> simp [h]
      out := fun b hb => by rw [if_neg (by omega)]
      log := fun h => absurd rfl h
      tx := { lim := hl, one := Int.le_refl _, fuel := by show (1 : Int) + ((([] : List Nat).length : Nat) : Int) + (n : Int) ≤ N; simp; omega, idle := fun _ x => by simp [stt], runs := fun h => (by cases h), old := fun s hs => (by cases hs), hor := fun s hs => (by cases hs) }
      heap := ⟨fun h => absurd rfl h, fun h => absurd rfl h⟩
      tree := trivial
      data := fun x hx => by cases hx
      keys := fun x hx => by cases hx
      tabs := ⟨h1, rfl, rfl⟩
      ns := fun s _ => hy s
      bd := fun x hx => by cases hx
      sm := fun x hx => by cases hx }⟩
theorem Sim.forget {N N' : Int} {K : Keep} {E : Env} {H H3 : T O} {nx n : Nat} {m : MM} {w : World} (hS : Sim (IT N) K E H nx m w) (h3 : str3 H = true) (hH : mkH [(3, .cells 568 strs)] = some H3) (hN : (n : Int) + 1 ≤ N') (hl : N' ≤ 1099511627776) :
    Sim (IT N') K (E.ren [] []) H3 8 (mF n) w := by
  have hm : mHs [] [] H [(3, .cells 568 strs)] = true := by
    show (Bool.rec (motive := fun _ => Bool) false true (str3 H)) = true
    rw [h3]
  refine hS.renG (I' := IT N') (m2 := mF n) hH hm rfl (fun F hF => ?_)
  obtain ⟨c, f, L, g⟩ := hF
  have z2 : 2 < w.heap.size := by
    rcases Nat.lt_or_ge 2 w.heap.size with h | h
    · exact h
    · have := g.out 2 h; have := g.tabs.2.2; omega
  refine ⟨fun b => b = 1 ∨ b = 2, goodF g.tabs.1 z2 hN hl (fun s => ?_), fun b hb => (g.fc b).2 ?_⟩
  rotate_left
  · rcases hb with rfl | rfl
    · rw [g.tabs.2.1]; decide
    · rw [g.tabs.2.2]; decide
  show (lget s []).bind (valS E) = none
  rw [lget_eq]; simp

noncomputable def worksB : Bool := (ob (mkH [(3, .cells 568 strs)]) fun H => ob (cn 100 5 [] ⟨H, 8, mF 9⟩) fun r => ck (match r.1 with | .bool b => b | _ => false) (ck (str3 r.2.H) (some 0))).rec false (fun _ => true)
theorem works_run : worksB = true := by kernel_rfl
/-- works, and all is forgotten. -/
theorem works_ok {N : Int} {K : Keep} {E : Env} {H : T O} {w : World} {n : Nat} {N' : Int} (hH : mkH [(3, .cells 568 strs)] = some H) (hS : Sim (IT N) K E H 8 (mF 9) w) (hN : (n : Int) + 1 ≤ N') (hl : N' ≤ 1099511627776) :
    Calls Tryz.prog 5 #[] w fun e w' => e = .returned (.bool true) ∧ ∃ E', Sim (IT N') K E' H 8 (mF n) w' := by
  obtain ⟨z, h⟩ := ob_rec works_run
  obtain ⟨H', hH', h⟩ := ob_eq h
  rw [hH] at hH'; cases hH'
  obtain ⟨r, hr, h⟩ := ob_eq h
  obtain ⟨hb, h⟩ := ck_eq h
  obtain ⟨h3, h4⟩ := ck_eq h; clear h4
  obtain ⟨v, s⟩ := r
  refine (cn_ok 100 hr hS (A := #[]) .nil).mono ?_
  rintro e w' ⟨W, E1, rfl, hle, hv, hS1⟩
  cases v with
  | bool b =>
    have hb : b = true := hb
    subst hb
    cases hv
    exact ⟨rfl, _, hS1.forget h3 hH hN hl⟩
  | _ => cases hb
end X
end Go.Proofs.YtnkjnclpakfgnaaGreatDoor
namespace Go.Proofs.YtnkjnclpakfgnaaGreatDoor
namespace X
open Go.RowKit
set_option maxRecDepth 100000

/-- Nothing is told. -/
def I0 : Inv where
  M := Unit
  inv := fun _ _ _ F => ∀ b, ¬ F b
  loc := fun h _ _ _ _ => h
  lt := fun h hb => absurd hb (h _)
noncomputable def cn0 (k : Nat) : CF Unit := callN Tryz.prog kp (fun cf n => drR Tryz.prog cf n) (fun _ => false) (fun _ _ _ _ => none) k
theorem pl0_ok : PlugOk I0 Tryz.prog (fun _ => false) (fun _ _ _ _ => none) := by
  intro cf hcf f args s s' v hf h
  cases h
theorem cn0_ok (k : Nat) : CallOk I0 Tryz.prog (cn0 k) := callN_ok hplain (fun hcf n => drR_ok hplain hmix hcf n) pl0_ok k
noncomputable def decB (i : Nat) : Bool := (ob (cn0 100 16 [.int .i64 (.ofNat i)] ⟨.e, 8, ()⟩) fun r => match r.1 with | .str l => ck (eqL l [48 + i]) (some 0) | _ => none).rec false (fun _ => true)
theorem dec0 : decB 0 = true := by kernel_rfl
theorem dec1 : decB 1 = true := by kernel_rfl
theorem dec2 : decB 2 = true := by kernel_rfl
theorem dec3 : decB 3 = true := by kernel_rfl
theorem dec4 : decB 4 = true := by kernel_rfl
theorem dec5 : decB 5 = true := by kernel_rfl
theorem dec6 : decB 6 = true := by kernel_rfl
theorem dec7 : decB 7 = true := by kernel_rfl
theorem dec8 : decB 8 = true := by kernel_rfl
theorem dec9 : decB 9 = true := by kernel_rfl
theorem dec_run : ∀ i, i < 10 → decB i = true
  | 0, _ => dec0
  | 1, _ => dec1
  | 2, _ => dec2
  | 3, _ => dec3
  | 4, _ => dec4
  | 5, _ => dec5
  | 6, _ => dec6
  | 7, _ => dec7
  | 8, _ => dec8
  | 9, _ => dec9
  | _ + 10, h => absurd h (by omega)
theorem dec_at (i : Nat) (hi : i < 10) (w : World) : Calls Tryz.prog 16 #[.int .i64 i] w fun e w' => ∃ S, e = .returned (.string S) ∧ bytesN S = [48 + i] ∧ Below w.heap.size w w' := by
  obtain ⟨z, h⟩ := ob_rec (dec_run i hi)
  obtain ⟨r, hr, h⟩ := ob_eq h
  obtain ⟨v, s⟩ := r
  cases v <;> first | (cases h; done) | skip
  rename_i l
  obtain ⟨hl, _⟩ := ck_eq h
  have hl := eqL_ok hl
  obtain ⟨K, hK⟩ : ∃ K : Keep, K = ⟨w.os, w.tape, w.output, w.heap.size, fun b => w.heap[b]?⟩ := ⟨_, rfl⟩
  obtain ⟨E, hE⟩ : ∃ E : Env, E = ⟨fun id => if id < 8 then some (id, (0, 0)) else none, fun _ => none, 8⟩ := ⟨_, rfl⟩
  have nl : ∀ {id o}, ¬ Live (.e : T O) id o := fun {id o} l => by
    have := l.1
    rw [hget_eq] at this
    split at this <;> cases this
  have hS : Sim I0 K E .e 8 () w :=
    { os := by rw [hK], tape := by rw [hK], output := by rw [hK], size := by rw [hK]; exact Nat.le_refl _
      fresh := fun id hid => by rw [hE]; exact if_neg (by omega)
      low := Nat.le_refl _
      top := by rw [hE]
      glob := fun g hg => by rw [hE]; exact ⟨0, if_pos hg⟩
      heap := fun l => absurd l nl
      inj := fun l => absurd l nl
      frame := fun g => by rw [hK] at g; exact g
      apart := fun l => absurd l nl
      inv := ⟨fun _ => False, fun _ h => h, fun _ h => h.elim, fun l => absurd l nl⟩ }
  refine (cn0_ok 100 hr hS (A := #[.int .i64 i]) (.cons (.int _ _) .nil)).mono ?_
  rintro e w' ⟨W, E1, rfl, hle, hv, hS1⟩
  cases hv with
  | str e =>
    refine ⟨_, rfl, e.trans hl, ?_⟩
    have hz : w.heap.size ≤ w'.heap.size := by have := hS1.size; rw [hK] at this; exact this
    refine ⟨by rw [hS1.os, hK], by rw [hS1.tape, hK], by rw [hS1.output, hK], hz, fun b hb => ?_⟩
    obtain ⟨o, ho⟩ : ∃ o, w.heap[b]? = some o := ⟨_, Array.getElem?_eq_getElem hb⟩
    rw [ho]
    exact hS1.frame (b := b) (by rw [hK]; exact ho)

/-! ### the first world, and the last -/
/-- The words' table. -/
def W3 (w : World) : Prop := ∃ L : Array Value, w.heap[3]? = some (.cells L 568) ∧ ∀ E, VRs E strs L.toList
/-- All that was there, but the tables. -/
structure Old (W : World) (K : Keep) : Prop where
  os : K.os = W.os
  tape : K.tape = W.tape
  output : K.output = W.output
  size : W.heap.size ≤ K.size
  G : ∀ b, b < W.heap.size → b ≠ 1 → b ≠ 2 → b ≠ 3 → K.G b = W.heap[b]?
theorem first_sim {W : World} (hU : U8 W) (h3 : W3 W) : ∃ (K : Keep) (E : Env) (H : T O), Old W K ∧ (∀ b, W.heap.size ≤ b → K.G b = none) ∧ mkH [(3, .cells 568 strs)] = some H ∧ Sim (IT 10) K E H 8 (mF 9) W := by
  obtain ⟨H, hH⟩ : ∃ H, mkH [(3, .cells 568 strs)] = some H := by
    cases e : mkH [(3, .cells 568 strs)] with
    | some H => exact ⟨H, rfl⟩
    | none =>
      have := works_run
      unfold worksB at this
      rw [e] at this; cases this
  obtain ⟨L, hL, hv⟩ := h3
  have z3 : 3 < W.heap.size := lt_of_block hL
  obtain ⟨K, hK⟩ : ∃ K : Keep, K = ⟨W.os, W.tape, W.output, W.heap.size, fun b => if b = 1 ∨ b = 2 ∨ b = 3 then none else W.heap[b]?⟩ := ⟨_, rfl⟩
  obtain ⟨E, hE⟩ : ∃ E : Env, E = ⟨fun id => if id < 8 then some (id, (0, 0)) else none, fun _ => none, 8⟩ := ⟨_, rfl⟩
  have eb : ∀ {id}, id < 8 → E.blk id = some (id, (0, 0)) := fun {id} h => by rw [hE]; exact if_pos h
  have hH3 : ∀ {id o}, Live H id o → id = 3 ∧ o = .cells 568 strs := fun {id o} l => by
    have := mkH_mem hH l.1
    simpa using this
  refine ⟨K, E, H, ⟨by rw [hK], by rw [hK], by rw [hK], by rw [hK]; exact Nat.le_refl _, fun b _ n1 n2 n3 => by rw [hK]; exact if_neg (by omega)⟩, fun b hb => by
    rw [hK]; dsimp only; split
    · rfl
    · exact Array.getElem?_eq_none hb, hH, ?_⟩
  exact
    { os := by rw [hK], tape := by rw [hK], output := by rw [hK], size := by rw [hK]; exact Nat.le_refl _
      fresh := fun id hid => by rw [hE]; exact if_neg (by omega)
      low := Nat.le_refl _
      top := by rw [hE]
      glob := fun g hg => ⟨0, eb hg⟩
      heap := fun {id o} l => by
        obtain ⟨rfl, rfl⟩ := hH3 l
        exact ⟨3, (0, 0), _, eb (by decide), hL, .cells rfl (hv _)⟩
      inj := fun {id id' o o' b c c'} l l' _ _ => by rw [(hH3 l).1, (hH3 l').1]
      frame := fun {b ob} g => by
        rw [hK] at g
        dsimp only at g
        split at g
        · cases g
        · exact g
      apart := fun {id o b c} l e => by
        obtain ⟨rfl, _⟩ := hH3 l
        rw [eb (by decide)] at e; cases e
        rw [hK]; simp
      inv := ⟨fun b => b = 1 ∨ b = 2, goodF hU (by omega) (by decide) (by decide) (fun s => by rw [hE]), fun b hb => by rw [hK]; exact if_pos (by rcases hb with rfl | rfl <;> simp), fun {id o b c} l e => by
        obtain ⟨rfl, _⟩ := hH3 l
        rw [eb (by decide)] at e; cases e
        omega⟩ }

theorem cells_same {L L' : Array Value} {n : Nat} {f : Nat → Value} (h : L.size = n) (h' : L'.size = n) (a : ∀ i, i < n → L[i]? = some (f i)) (b : ∀ i, i < n → L'[i]? = some (f i)) : L = L' := by
  apply Array.ext (h.trans h'.symm)
  intro i h1 h2
  have e1 := a i (by omega)
  have e2 := b i (by omega)
  rw [Array.getElem?_eq_getElem h1] at e1
  rw [Array.getElem?_eq_getElem h2] at e2
  exact (Option.some.inj e1).trans (Option.some.inj e2).symm
theorem cell_arr {w : World} {b : Nat} {L : Array Value} {t i : Nat} (h : w.heap[b]? = some (.cells L t)) {v : Value} (hc : w.cell? ⟨b, i, none⟩ = some v) : L[i]? = some v := by
  simpa [World.cell?, h] using hc
theorem u8_same {w w' : World} (h : U8 w) (h' : U8 w') : w'.heap[1]? = w.heap[1]? ∧ w'.heap[2]? = w.heap[2]? := by
  obtain ⟨⟨t1, t2⟩, ⟨L1, a1, s1⟩, ⟨L2, a2, s2⟩⟩ := h
  obtain ⟨⟨u1, u2⟩, ⟨M1, b1, r1⟩, ⟨M2, b2, r2⟩⟩ := h'
  constructor
  · rw [a1, b1, cells_same s1 r1 (f := fun c => .int .u8 (Lib.firstT c)) (fun i hi => cell_arr a1 (t1 i hi)) (fun i hi => cell_arr b1 (u1 i hi))]
  · rw [a2, b2, cells_same s2 r2 (f := fun c => .int .u8 (if c % 2 = 0 then Lib.accLo (c / 2) else Lib.accHi (c / 2)))
      (fun i hi => by
        rcases Nat.mod_two_eq_zero_or_one i with h | h
        · rw [if_pos h]; exact cell_arr a2 (by have := (t2 (i / 2) (by omega)).1; rwa [show 2 * (i / 2) = i by omega] at this)
        · rw [if_neg (by omega)]; exact cell_arr a2 (by have := (t2 (i / 2) (by omega)).2; rwa [show 2 * (i / 2) + 1 = i by omega] at this))
      (fun i hi => by
        rcases Nat.mod_two_eq_zero_or_one i with h | h
        · rw [if_pos h]; exact cell_arr b2 (by have := (u2 (i / 2) (by omega)).1; rwa [show 2 * (i / 2) = i by omega] at this)
        · rw [if_neg (by omega)]; exact cell_arr b2 (by have := (u2 (i / 2) (by omega)).2; rwa [show 2 * (i / 2) + 1 = i by omega] at this))]
/-- In the end all that was there is as it was. -/
theorem last_below {N : Int} {W w : World} {K : Keep} {E : Env} {H : T O} {nx : Nat} {m : MM} (hU : U8 W) (h3 : W3 W) (hK : Old W K) (hS : Sim (IT N) K E H nx m w) (hs : str3 H = true) : Below W.heap.size W w := by
  obtain ⟨L, hL, hv⟩ := h3
  obtain ⟨F, ⟨c, f, Lg, g⟩, _⟩ := hS.inv
  obtain ⟨t1, t2⟩ := u8_same hU g.tabs.1
  obtain ⟨p, lp, op⟩ := str3_ok hs
  have t3 : w.heap[3]? = W.heap[3]? := by
    obtain ⟨n, hn⟩ := hS.glob 3 (by decide)
    obtain ⟨ob, q1, q2⟩ := hS.at lp hn
    obtain ⟨L', rfl, v'⟩ := op q2
    rw [q1, hL, Array.toList_inj.1 (strs_same (fun v hv => allB_ok strs_str v hv) (hv E) v')]
  refine ⟨hS.os.trans hK.os, hS.tape.trans hK.tape, hS.output.trans hK.output, Nat.le_trans hK.size hS.size, fun b hb => ?_⟩
  by_cases c1 : b = 1
  · subst c1; exact t1
  by_cases c2 : b = 2
  · subst c2; exact t2
  by_cases c3 : b = 3
  · subst c3; exact t3
  obtain ⟨o, ho⟩ : ∃ o, W.heap[b]? = some o := ⟨_, Array.getElem?_eq_getElem hb⟩
  rw [ho]
  exact hS.frame (b := b) (by rw [hK.G b hb c1 c2 c3]; exact ho)
end X
end Go.Proofs.YtnkjnclpakfgnaaGreatDoor
