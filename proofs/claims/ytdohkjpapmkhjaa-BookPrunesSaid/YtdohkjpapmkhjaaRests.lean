/-
  SnapRests, the walk: those that run with their snapshots in a map, what is dead in a slice.
-/
import Derived.Test.YtdohkjpapmkhjaaAwakeTen
import Derived.Test.YtdohkjpapmkhjaaLives
import Derived.Test.YtdohkjpapmkhjaaRuns
import Derived.Deep.CutRange
import Derived.Deep.CutBlock
namespace Go.Proofs.Ytdohkjpapmkhjaa
open Go.RowKit

theorem tuple_agg (a b : Int) (w : World) : Calls Try.prog 34 #[.int .u64 a, .int .u64 b] w fun e w' => e = .returned (.agg #[.int .u64 0, .int .u64 a, .int .u64 b, .int .i64 0, .int .i64 0, .slice none 0 0]) ∧ Below w.heap.size w w' := tuple_at a b w
/-- Elements of two uint64s. -/
def Twos (w : World) (a : Option Addr) (len : Nat) : Prop :=
  ∀ i, i < len → ∃ b off x y, a = some ⟨b, off, none⟩ ∧ b < w.heap.size ∧ w.cell? ⟨b, off + i * 2, none⟩ = some (.int .u64 x) ∧ w.cell? ⟨b, off + i * 2 + 1, none⟩ = some (.int .u64 y) ∧
    0 ≤ x ∧ x ≤ 18446744073709551615 ∧ 0 ≤ y ∧ y ≤ 18446744073709551615

theorem zero66 (w : World) : (zeroValue 66).run Try.prog w = .ok (.agg #[.int .u64 0, .int .u64 0, .int .u64 0, .slice none 0 0]) w := by kernel_rfl

def set6 (w : World) (b : Nat) (v0 v1 v2 v3 v4 v5 : Value) : World := (((((w.setCell ⟨b, 0, none⟩ v0).setCell ⟨b, 1, none⟩ v1).setCell ⟨b, 2, none⟩ v2).setCell ⟨b, 3, none⟩ v3).setCell ⟨b, 4, none⟩ v4).setCell ⟨b, 5, none⟩ v5
theorem set6_heap {w : World} {b T : Nat} {z0 z1 z2 z3 z4 z5 : Value} (h : w.heap[b]? = some (.cells #[z0, z1, z2, z3, z4, z5] T (0, 0))) (v0 v1 v2 v3 v4 v5 : Value) :
    (set6 w b v0 v1 v2 v3 v4 v5).heap[b]? = some (.cells #[v0, v1, v2, v3, v4, v5] T (0, 0)) := by
  unfold set6
  rw [block_setCell (block_setCell (block_setCell (block_setCell (block_setCell (block_setCell h v0) v1) v2) v3) v4) v5]; rfl
theorem set6_upd {S : Nat → Prop} {w0 w : World} {b : Nat} (u : Upd S w0 w) (hb : b < w0.heap.size → S b) (v0 v1 v2 v3 v4 v5 : Value) : Upd S w0 (set6 w b v0 v1 v2 v3 v4 v5) :=
  (((((u.setCell (a := ⟨b, 0, none⟩) v0 hb).setCell (a := ⟨b, 1, none⟩) v1 hb).setCell (a := ⟨b, 2, none⟩) v2 hb).setCell (a := ⟨b, 3, none⟩) v3 hb).setCell (a := ⟨b, 4, none⟩) v4 hb).setCell (a := ⟨b, 5, none⟩) v5 hb

/-- The log, the snapshots of those that run, the dead, in memory made behind w0. -/
structure Rst (w0 : World) (ub pl : Nat) (dv : Value) (c : Nat → Nat) (w : World) (L : List Nat) (lv : Int → Option (Snp × Value)) (m : List (Int × Value)) (D : List (Int × Int)) : Prop where
  l : LogAt c 1 w pl 1 L
  mp : MapOf (Value.int .u64) w ub m
  two : c ub = 2
  get : ∀ y, mget m y = (lv y).map fun z => z.1.val z.2
  once : Once m
  live : ∀ y z, lv y = some z → Run w z.2 z.1.run ∧ ∀ g, z.2.ownBlock = some g → c g = 3
  d : w.ownsRow 0 76 6 dv D.length (D.flatMap tcells)
  dc : ∀ g, dv.ownBlock = some g → c g = 4
  col : ∀ b, b < w0.heap.size → c b = 0
  below : Below w0.heap.size w0 w
  own : w0.heap.size ≤ ub

section
variable {w0 : World} {ub pl : Nat} {dv : Value} {c : Nat → Nat} {w w' : World} {L L' : List Nat} {lv : Int → Option (Snp × Value)} {m : List (Int × Value)} {D : List (Int × Int)}
theorem Rst.upd {S : Nat → Prop} (h : Rst w0 ub pl dv c w L lv m D) (u : Upd S w w') (h1 : ∀ b, S b → c b = 9 ∨ w.heap.size ≤ b) : Rst w0 ub pl dv c w' L lv m D := by
  have k : ∀ (b i : Nat), b < w.heap.size → c b = i → i ≠ 9 → ¬ S b := fun b i hb e hi hs => by rcases h1 b hs with h1 | h1 <;> omega
  refine ⟨?_, h.mp.upd u (k ub 2 h.mp.lt h.two (by decide)), h.two, h.get, h.once, fun y z e => ⟨(h.live y z e).1.upd u (fun b hb => k b 3 ((h.live y z e).1.lt b hb) ((h.live y z e).2 b hb) (by decide)), (h.live y z e).2⟩,
    ownsRow_upd h.d u (fun b hb => k b 4 (World.ownsRow.lt h.d b hb).2 (h.dc b hb) (by decide)), h.dc, h.col, h.below.trans (u.below h.below.size (fun b hb e => by have := h.col b hb; have := h.below.size; rcases h1 b e with e | e <;> omega)), h.own⟩
  obtain ⟨h1', h2, h3, h4, v, h5, h6, h7⟩ := h.l
  exact ⟨h1', h2, h3, h4, v, u.heap h5 (k pl 1 (lt_of_block h5) h4 (by decide)), ownsRow_upd h6 u (fun b hb => k b 1 (World.ownsRow.lt h6 b hb).2 (h7 b hb).1 (by decide)), h7⟩
theorem Rst.same (h : Rst w0 ub pl dv c w L lv m D) (u : Below w.heap.size w w') : Rst w0 ub pl dv c w' L lv m D := h.upd (S := fun _ => False) (Upd.same u) (fun _ x => x.elim)
theorem Rst.recol (h : Rst w0 ub pl dv c w L lv m D) {c' : Nat → Nat} (hold : ∀ b, b < w.heap.size → c' b = c b) : Rst w0 ub pl dv c' w L lv m D :=
  ⟨h.l.recol hold, h.mp, (hold ub h.mp.lt).trans h.two, h.get, h.once, fun y z e => ⟨(h.live y z e).1, fun g hg => (hold g ((h.live y z e).1.lt g hg)).trans ((h.live y z e).2 g hg)⟩, h.d, fun g hg => (hold g (World.ownsRow.lt h.d g hg).2).trans (h.dc g hg),
    fun b hb => (hold b (Nat.lt_of_lt_of_le hb h.below.size)).trans (h.col b hb), h.below, h.own⟩
theorem Rst.log (h : Rst w0 ub pl dv c w L lv m D) (hl : LogAt c 1 w' pl 1 L') (u : Upd (fun b => c b = 1) w w') : Rst w0 ub pl dv c w' L' lv m D :=
  ⟨hl, h.mp.upd u (by have := h.two; omega), h.two, h.get, h.once, fun y z e => ⟨(h.live y z e).1.upd u (fun b hb e1 => by have := (h.live y z e).2 b hb; omega), (h.live y z e).2⟩, ownsRow_upd h.d u (fun b hb e => by have := h.dc b hb; omega), h.dc, h.col,
    h.below.trans (u.below h.below.size (fun b hb e => by have := h.col b hb; omega)), h.own⟩
theorem rest_commit (h : Rst w0 ub pl dv c w L lv m D) (x : Int) : Calls Try.prog 23 #[.pointer (some ⟨pl, 0, none⟩), .int .u64 x] w fun e w' => e = .returned (.int .i64 (endErr 1 L x)) ∧ Rst w0 ub pl dv c w' (ended 1 L x 2) lv m D := by
  refine (commit_at h.l x).mono fun e w' ⟨h1, h2, h3⟩ => ⟨h1, h.log h2 h3⟩
theorem rest_abort (h : Rst w0 ub pl dv c w L lv m D) (x : Int) : Calls Try.prog 25 #[.pointer (some ⟨pl, 0, none⟩), .int .u64 x] w fun e w' => e = .returned (.int .i64 (endErr 1 L x)) ∧ Rst w0 ub pl dv c w' (ended 1 L x 3) lv m D := by
  refine (abort_at h.l x).mono fun e w' ⟨h1, h2, h3⟩ => ⟨h1, h.log h2 h3⟩
theorem rest_begin (h : Rst w0 ub pl dv c w L lv m D) (hf : 1 + (L.length : Int) ≤ 1099511627776) : Calls Try.prog 18 #[.pointer (some ⟨pl, 0, none⟩)] w fun e w' => e = .returned (.tuple #[.int .u64 (1 + L.length), .int .i64 0]) ∧ ∃ c', Rst w0 ub pl dv c' w' (L ++ [1]) lv m D := by
  refine (begin_at h.l hf).mono fun e w' ⟨h1, h2, h3⟩ => ?_
  have hold : ∀ b, b < w.heap.size → col c w.heap.size 1 b = c b := fun b hb => col_old hb
  exact ⟨h1, _, (h.recol hold).log h2 (h3.mono (fun b hb e => (hold b hb).trans e))⟩
theorem rest_take (h : Rst w0 ub pl dv c w L lv m D) (x : Int) : Calls Try.prog 36 #[.pointer (some ⟨pl, 0, none⟩), .int .u64 x] w fun e w' => ∃ rv, e = .returned ((take 1 L x).val rv) ∧ Run w' rv (take 1 L x).run ∧
    ∃ c', (∀ g, rv.ownBlock = some g → c' g = 3) ∧ Rst w0 ub pl dv c' w' L lv m D := by
  refine (take_at h.l x).mono fun e w' ⟨rv, h1, h2, h3, h4⟩ => ⟨rv, h1, h2, col c w.heap.size 3, fun g hg => col_new (h3 g hg), (h.recol (fun b hb => col_old hb)).same h4⟩
theorem Rst.put (h : Rst w0 ub pl dv c w L lv m D) {s : Snp} {rv : Value} (hr : Run w rv s.run) (hg : ∀ g, rv.ownBlock = some g → c g = 3) (x : Int) (hm : MapOf (Value.int .u64) w' ub (mset m x (s.val rv))) (u : Upd (fun b => b = ub) w w') :
    Rst w0 ub pl dv c w' L (fun y => if y = x then some (s, rv) else lv y) (mset m x (s.val rv)) D := by
  have h2 := h.two
  refine ⟨h.l.upd u (fun b e e2 => by subst e2; omega), hm, h.two, fun y => ?_, h.once.mset _ _, fun y z e => ?_, ownsRow_upd h.d u (fun b hb e => by subst e; have := h.dc b hb; omega), h.dc, h.col, h.below.trans (u.below h.below.size (fun b hb e => by have := h.own; omega)), h.own⟩
  · rw [mget_mset]
    by_cases e : y = x
    · rw [if_pos e, if_pos e]; rfl
    · rw [if_neg e, if_neg e]; exact h.get y
  · split at e
    · obtain rfl := Option.some.inj e
      exact ⟨hr.upd u (fun b hb e => by subst e; have := hg b hb; omega), hg⟩
    · exact ⟨(h.live y z e).1.upd u (fun b hb e1 => by subst e1; have := (h.live y z e).2 b hb; omega), (h.live y z e).2⟩
theorem Rst.del (h : Rst w0 ub pl dv c w L lv m D) (x : Int) (hm : MapOf (Value.int .u64) w' ub (mdel m x)) (u : Upd (fun b => b = ub) w w') :
    Rst w0 ub pl dv c w' L (fun y => if y = x then none else lv y) (mdel m x) D := by
  have h2 := h.two
  refine ⟨h.l.upd u (fun b e e2 => by subst e2; omega), hm, h.two, fun y => ?_, h.once.mdel _, fun y z e => ?_, ownsRow_upd h.d u (fun b hb e => by subst e; have := h.dc b hb; omega), h.dc, h.col, h.below.trans (u.below h.below.size (fun b hb e => by have := h.own; omega)), h.own⟩
  · rw [mget_mdel h.once]
    by_cases e : y = x
    · rw [if_pos e, if_pos e]; rfl
    · rw [if_neg e, if_neg e]; exact h.get y
  · split at e
    · cases e
    · exact ⟨(h.live y z e).1.upd u (fun b hb e1 => by subst e1; have := (h.live y z e).2 b hb; omega), (h.live y z e).2⟩
theorem Rst.grow (h : Rst w0 ub pl dv c w L lv m D) {dv' : Value} {t : Int × Int} (hd : w'.ownsRow 0 76 6 dv' (D.length + 1) (D.flatMap tcells ++ tcells t)) (u : Upd (fun b => dv.ownBlock = some b) w w')
    (hn : ∀ g, dv'.ownBlock = some g → dv.ownBlock = some g ∨ w.heap.size ≤ g) : Rst w0 ub pl dv' (Ytdohkjpapmkhjaa.col c w.heap.size 4) w' L lv m (D ++ [t]) := by
  have hold : ∀ b, b < w.heap.size → Ytdohkjpapmkhjaa.col c w.heap.size 4 b = c b := fun b hb => col_old hb
  have hlt : ∀ b, dv.ownBlock = some b → b < w.heap.size := fun b hb => (World.ownsRow.lt h.d b hb).2
  have k := h.recol hold
  have kd : ∀ b, dv.ownBlock = some b → Ytdohkjpapmkhjaa.col c w.heap.size 4 b = 4 := fun b hb => (hold b (hlt b hb)).trans (h.dc b hb)
  refine ⟨k.l.upd u (fun b e e2 => by have := kd b e2; omega), k.mp.upd u (fun e2 => by have := kd _ e2; have := k.two; omega), k.two, k.get, k.once, fun y z e => ⟨(k.live y z e).1.upd u (fun b hb e2 => by have := kd b e2; have := (k.live y z e).2 b hb; omega), (k.live y z e).2⟩, ?_, fun g hg => ?_, k.col,
    k.below.trans (u.below k.below.size (fun b hb e => by have := kd b e; have := k.col b hb; omega)), k.own⟩
  · rw [List.length_append, List.flatMap_append]; simpa using hd
  · rcases hn g hg with e | e
    · exact kd g e
    · exact col_new e
end

set_option maxHeartbeats 8000000 in
set_option maxRecDepth 100000 in
theorem snapRests_any (a1 : Option Addr) (n1 cap1 : Nat) (a2 : Option Addr) (n2 cap2 : Nat) (w : World) (_hn1 : n1 ≤ 9223372036854775807) (_hn2 : n2 ≤ 9223372036854775807) (hs1 : Script2 w a1 n1) (hs2 : Twos w a2 n2) :
    Calls Try.prog 9 #[.slice a1 n1 cap1, .slice a2 n2 cap2] w fun e w' => e = .returned (.bool true) ∧ Below w.heap.size w w' := by
  have hmm := @run_makeMap Try.prog
  have HS1 := Lib.hid hs1; clear hs1
  have HS2 := Lib.hid hs2; clear hs2
  obtain ⟨i76, hi76, hz760, hz761, hz762⟩ := info_parts Try.info76
  obtain ⟨i66, hi66, hz660, hz661, hz662⟩ := info_parts Try.info66
  go_enter Try.func9, Try.ntmps9
  go_wp2_with fail
  refine (awake_ten w).mono ?_
  rintro e w1 ⟨rfl, b1⟩
  go_wp2_with fail
  refine (new_own 1 w1 (by decide) (by decide)).mono ?_
  rintro e w2 ⟨rfl, l2, b2⟩
  go_wp2_with fail
  have hR0 : Rst w1 w2.heap.size w1.heap.size (.slice none 0 0) (col (own w1.heap.size) w2.heap.size 2) (w2.alloc (.map #[] 0)) [] (fun _ => none) [] [] :=
    ⟨(l2.recol (fun b hb => col_old hb)).same ((Below.refl _ _).alloc (Nat.le_refl _) _), MapOf.made w2 (Value.int .u64), col_new (Nat.le_refl _), fun y => rfl, by simp [Once], (fun y z e => by cases e), World.ownsRow_nil _ _ _ _, (fun g hg => by simp [Value.ownBlock] at hg),
      fun b hb => by rw [col_old (Nat.lt_of_lt_of_le hb b2.size), own, col_old hb], b2.alloc b2.size _, b2.size⟩
  obtain ⟨ub, hub⟩ : ∃ ub, ub = w2.heap.size := ⟨_, rfl⟩
  obtain ⟨pl, hpl⟩ : ∃ pl, pl = w1.heap.size := ⟨_, rfl⟩
  obtain ⟨c0, hc0⟩ : ∃ c0, c0 = col (own w1.heap.size) w2.heap.size 2 := ⟨_, rfl⟩
  rw [← hc0] at hR0
  rw [← hub, ← hpl] at hR0
  rw [← hub, ← hpl]
  clear hc0 hub hpl l2
  have hV0 := Lives.start
  go_loopw [8, 31] (fun dv i wr => ∃ (j : Nat) (L : List Nat) (lv : Int → Option (Snp × Value)) (m : List (Int × Value)) (D : List (Int × Int)) (c : Nat → Nat), j ≤ n1 ∧ i = .int .i64 j ∧ Rst w1 ub pl dv c wr L lv m D ∧ Lives L lv D ∧ L.length ≤ j ∧ L.length ≤ 50 ∧ D.length ≤ j ∧ D.length ≤ 50) (fun _ i _ => n1 - (intOf i).toNat)
  case atStart => exact ⟨0, _, _, _, _, _, Nat.zero_le _, rfl, hR0, hV0, Nat.le_refl _, by decide, Nat.le_refl _, by decide⟩
  case round =>
    clear hR0 hV0
    obtain ⟨j, L, lv, m, D, c, hj, rfl, hR, hV, hLj, hL50, hDj, hD50⟩ := hrel
    have hBw := b1.trans (hR.below.mono b1.size)
    by_cases hlt : j < n1
    · obtain ⟨b, off, d, x, ha, hb, e0, e1, d0, d1, x0, x1⟩ := HS1.out j hlt
      subst ha
      have e0' := (hBw.cell (p := ⟨b, off + j * 2, none⟩) hb).trans e0
      have e1' := (hBw.cell (p := ⟨b, off + j * 2 + 1, none⟩) hb).trans e1
      clear e0 e1
      by_cases h50 : j < 50
      · have hj50 : (j : Int) < 50 := by omega
        have hRa := hR.same ((Below.refl _ _).alloc (Nat.le_refl _) (.cells #[.int .u8 d, .int .u64 x] 70))
        go_upto_block 2 with fail
        go_cut [] from 32 to 128 (fun wx => ∃ (c : Nat → Nat) (L : List Nat) (lv : Int → Option (Snp × Value)) (m : List (Int × Value)), Rst w1 ub pl u8 c wx L lv m D ∧ Lives L lv D ∧ L.length ≤ j + 1)
        case first =>
          have hd4 : d % 4 = 0 ∨ d % 4 = 1 ∨ d % 4 = 2 ∨ d % 4 = 3 := by omega
          rcases hd4 with h | h | h | h
          · have q0 : (d % 4 == 0) = true := by rw [beq_iff_eq]; exact h
            clear h
            go_wp2_with fail
            refine (rest_begin hRa (by omega)).mono ?_
            rintro e wa ⟨rfl, cb, hRb⟩
            go_wp2_with fail
            refine (rest_take hRb _).mono ?_
            rintro e wt ⟨rv, rfl, hrun, ct, hgt, hRt⟩
            obtain ⟨ra, rc, hrv⟩ := ownsRow_slice hrun.1
            subst hrv
            unfold Snp.val
            go_wp2_with (at_mapUpdate; refine wpList_update_map rfl _ _ _ 81 rfl 23 66 key23 Try.underlying81 _ _ rfl hRt.mp (1 + (L.length : Int)) (Snp.val _ _) rfl rfl ?_; intro wb hmb hub)
            go_meet
            exact ⟨_, _, _, _, hRt.put hrun hgt _ hmb hub, hV.begin _, by simp; omega⟩
          · have q0 : (d % 4 == 0) = false := by rw [beq_eq_false_iff_ne]; omega
            have q1 : (d % 4 == 1) = true := by rw [beq_iff_eq]; exact h
            clear h
            go_wp2_with fail
            refine (rest_begin hRa (by omega)).mono ?_
            rintro e wa ⟨rfl, cb, hRb⟩
            go_wp2_with fail
            refine (rest_take hRb _).mono ?_
            rintro e wt ⟨rv, rfl, hrun, ct, hgt, hRt⟩
            obtain ⟨ra, rc, hrv⟩ := ownsRow_slice hrun.1
            subst hrv
            unfold Snp.val
            go_wp2_with (at_mapUpdate; refine wpList_update_map rfl _ _ _ 81 rfl 23 66 key23 Try.underlying81 _ _ rfl hRt.mp (1 + (L.length : Int)) (Snp.val _ _) rfl rfl ?_; intro wb hmb hub)
            go_meet
            exact ⟨_, _, _, _, hRt.put hrun hgt _ hmb hub, hV.begin _, by simp; omega⟩
          · have q0 : (d % 4 == 0) = false := by rw [beq_eq_false_iff_ne]; omega
            have q1 : (d % 4 == 1) = false := by rw [beq_eq_false_iff_ne]; omega
            have q2 : (d % 4 == 2) = true := by rw [beq_iff_eq]; exact h
            clear h
            go_wp2_with (first
              | (go_at_call 23; (with_reducible refine (rest_commit hRa (x % 50)).mono ?_); rintro e wa ⟨rfl, hRb⟩)
              | (at_delete; refine wpList_delete_map rfl _ _ 81 23 rfl 66 key23 Try.underlying81 _ _ rfl hRb.mp (x % 50) rfl ?_; intro wb hmb hub))
            go_meet
            exact ⟨_, _, _, _, hRb.del (x % 50) hmb hub, hV.ended (x % 50) (by decide), by rw [length_ended]; omega⟩
          · have q0 : (d % 4 == 0) = false := by rw [beq_eq_false_iff_ne]; omega
            have q1 : (d % 4 == 1) = false := by rw [beq_eq_false_iff_ne]; omega
            have q2 : (d % 4 == 2) = false := by rw [beq_eq_false_iff_ne]; omega
            clear h
            go_wp2_with (first
              | (go_at_call 25; (with_reducible refine (rest_abort hRa (x % 50)).mono ?_); rintro e wa ⟨rfl, hRb⟩)
              | (at_delete; refine wpList_delete_map rfl _ _ 81 23 rfl 66 key23 Try.underlying81 _ _ rfl hRb.mp (x % 50) rfl ?_; intro wb hmb hub))
            go_meet
            exact ⟨_, _, _, _, hRb.del (x % 50) hmb hub, hV.ended (x % 50) (by decide), by rw [length_ended]; omega⟩
        case rest =>
          clear hRa hR hV e0' e1' hBw hLj hL50
          obtain ⟨c2, L2, lv2, m2, hR, hV, hL2⟩ := hcut
          have hL51 : L2.length ≤ 51 := by omega
          go_wp2_with fail
          have hRw := hR
          go_loopw [14, 69] (fun v i wr => ∃ k : Nat, k ≤ 60 ∧ i = .int .u64 k ∧ wr.ownsRow wc.heap.size 66 4 v (allTo lv2 k).length ((allTo lv2 k).flatMap snapCells) ∧ Below wc.heap.size wc wr) (fun _ i _ => 60 - (intOf i).toNat)
          case atStart => exact ⟨0, by omega, rfl, World.ownsRow_nil _ _ _ _, Below.refl _ _⟩
          case round =>
            clear hRw
            obtain ⟨k, hk, rfl, hown, hB⟩ := hrel
            have hzB := hB.size
            by_cases hkl : k < 60
            · have hRk := hR.same hB
              have hlk := run_lookup_map hRk.mp key23 Try.underlying81 (zero66 wr) (k : Int) true
              rw [hRk.get] at hlk
              have hsu := allTo_succ lv2 k
              have hal := allTo_le lv2 k
              cases hz : lv2 (k : Int) with
              | none =>
                rw [hz] at hlk hsu
                have hlk2 : (Instr.lookup 81 (.map (some ub)) (.int .u64 (k : Int)) true).run Try.prog wr = .ok (.tuple #[.agg #[.int .u64 0, .int .u64 0, .int .u64 0, .slice none 0 0], .bool false]) wr := hlk
                rw [List.append_nil] at hsu
                have HSU := Lib.hid hsu
                clear hlk hz hsu
                go_wp2_with fail
                go_roundw
                case rel => exact ⟨k + 1, by omega, by go_num, by rw [HSU.out]; exact ownsRow_upd (S := fun _ => False) hown (Upd.same ((Below.refl _ _).alloc (Nat.le_refl _) _)) (fun _ _ x => x), hB.alloc hB.size _⟩
                case measure => simp [intOf]; omega
              | some z =>
                rw [hz] at hlk hsu
                have hzr := (hRk.live _ _ hz).1
                obtain ⟨s, rv⟩ := z
                obtain ⟨ra, rc, hrv⟩ := ownsRow_slice hzr.1
                simp only at hrv
                subst hrv
                have hlk2 : (Instr.lookup 81 (.map (some ub)) (.int .u64 (k : Int)) true).run Try.prog wr = .ok (.tuple #[.agg #[.int .u64 s.own, .int .u64 s.xmin, .int .u64 s.xmax, .slice ra s.run.length rc], .bool true]) wr := hlk
                have HSU := Lib.hid hsu
                clear hlk hz hsu
                have hwn : ∀ b, u14.ownBlock = some b → wc.heap.size ≤ b := fun b hb => (World.ownsRow.lt hown b hb).1
                have HWN := Lib.hid hwn; clear hwn
                have hz660' : i66.zero = some (.agg #[.int .u64 0, .int .u64 0, .int .u64 0, .slice none 0 0]) := hz660
                go_wp2_with (at_builtin; refine wpList_append_mine rfl (.tmp 79) (.tmp 81) 61 rfl wc.heap.size 66 i66 (.agg #[.int .u64 0, .int .u64 0, .int .u64 0, .slice none 0 0]) 4 48 Try.underlying61 hi66 hz660' hz661 hz662 rfl (by decide) _ _ _ rfl (World.ownsRow.alloc (World.ownsRow.alloc hown _) _) ⟨wr.heap.size + 1, 0, none⟩ 1 1 (snapCells (s, .slice ra s.run.length rc)) rfl rfl ?c1 ?c2 ?c3 ?c4 ?c5 ?_)
                case c1 => exact fun j u h => h
                case c2 => intro u hu; simp [snapCells] at hu; rcases hu with rfl | rfl | rfl | rfl <;> rfl
                case c3 => unfold maxLen; omega
                case c4 => omega
                case c5 => first | omega | (simp; omega)
                intro v' w5 hown' hupd hnew
                have hb5 : Below wc.heap.size wr w5 := Upd.below (S := fun b => u14.ownBlock = some b) ((Upd.same (((Below.refl _ _).alloc (Nat.le_refl _) _).alloc (by simp) _)).trans hupd) hzB (fun b hb e => by have := HWN.out _ e; omega)
                go_wp2_with fail
                go_roundw
                case rel => exact ⟨k + 1, by omega, by go_num, by rw [HSU.out, List.length_append, List.flatMap_append]; simpa using hown', hB.trans hb5⟩
                case measure => simp [intOf]; omega
            · have hke : k = 60 := by omega
              subst hke
              have hRk := hR.same hB
              have hsn : Snaps (fun _ => 0) 0 wr u14 (allTo lv2 60) := ⟨ownsRow_base hown (Nat.zero_le _), fun _ _ => rfl, fun z hz => by
                obtain ⟨q, _, hq⟩ := (mem_allTo _ _ _).1 hz
                exact ⟨(hRk.live _ _ hq).1, fun _ _ => rfl⟩, by have := allTo_le lv2 60; omega⟩
              have hll : LogAt (fun _ => 0) 0 wr pl 1 L2 := by
                obtain ⟨h1', h2, h3, h4, v, h5, h6, h7⟩ := hRk.l
                exact ⟨h1', h2, h3, rfl, v, h5, h6, fun g hg => ⟨rfl, (h7 g hg).2⟩⟩
              have hhor := hV.horizon (by omega)
              clear hown hR
              go_wp2_with fail
              refine (horizon_at hll hsn).mono ?_
              rintro e wh ⟨rfl, hBh⟩
              obtain ⟨hz, hhz⟩ : ∃ hz, hz = least (1 + (L2.length : Int)) ((allTo lv2 60).map (·.1.xmin)) := ⟨_, rfl⟩
              rw [← hhz] at hhor
              rw [← hhz]
              have HH := Lib.hid hhor
              have hRh := hRk.same hBh
              obtain ⟨da, dc', hdv⟩ := ownsRow_slice hRh.d
              subst hdv
              clear hll hsn hhor hhz hRk
              go_wp2_with fail
              have hRx := hRh
              go_loopw [89] (fun i wr => ∃ k : Nat, k ≤ D.length ∧ i = .int .i64 k ∧ Below wh.heap.size wh wr) (fun i _ => D.length - (intOf i).toNat)
              case atStart => exact ⟨0, Nat.zero_le _, rfl, Below.refl _ _⟩
              case round =>
                clear hRx
                obtain ⟨k, hk, rfl, hBk⟩ := hrel
                by_cases hkl : k < D.length
                · have htu : Tups 0 wr (.slice da D.length dc') D := (hRh.same hBk).d
                  obtain ⟨g, cap, hg, _, _, f0, f1, f2, f3, f4, f5⟩ := htu.at hkl
                  simp only [Value.slice.injEq] at hg
                  obtain ⟨rfl, _, rfl⟩ := hg
                  have hdd := (HH.out D[k].1 D[k].2).2 (hV.dead _ (List.getElem_mem hkl))
                  obtain ⟨t, ht⟩ : ∃ t, t = D[k] := ⟨_, rfl⟩
                  rw [← ht] at f1 f2 hdd
                  have hlk := (hRh.same hBk).l
                  have hca : ∀ o, Calls Try.prog 38 #[.pointer (some ⟨pl, 0, none⟩), .agg #[.int .u64 0, .int .u64 t.1, .int .u64 t.2, .int .i64 0, .int .i64 0, .slice none 0 0], .int .u64 hz] (wr.alloc o) fun e w' => e = .returned (.bool true) ∧ Below (wr.alloc o).heap.size (wr.alloc o) w' := fun o => by
                    have := dead_at (hlk.same ((Below.refl _ _).alloc (Nat.le_refl _) o)) t.1 t.2 hz
                    rw [hdd] at this; exact this
                  have HCA := Lib.hid hca
                  clear hca hdd ht htu
                  go_wp2_with (go_at_call 38; (with_reducible refine (HCA.out _).mono ?_); rintro e wd ⟨rfl, hBd⟩)
                  go_roundw
                  case rel => exact ⟨k + 1, by omega, by go_num, hBk.trans (((Below.refl _ _).alloc (Nat.le_refl _) _).trans (hBd.mono (by simp)) |>.mono hBk.size)⟩
                  case measure => simp [intOf]; omega
                · have hke : k = D.length := by omega
                  have hRk := hRh.same hBk
                  by_cases hst : j < n2
                  · have hst1 : (j : Int) < n2 := by omega
                    obtain ⟨b2, off2, x2, y2, ha2, hb2, s0, s1, hx0, hx1, hy0, hy1⟩ := HS2.out j hst
                    subst ha2
                    have hBw2 := b1.trans (hRk.below.mono b1.size)
                    have s0' := (hBw2.cell (p := ⟨b2, off2 + j * 2, none⟩) hb2).trans s0
                    have s1' := (hBw2.cell (p := ⟨b2, off2 + j * 2 + 1, none⟩) hb2).trans s1
                    have hb2' : b2 < wr.heap.size := Nat.lt_of_lt_of_le hb2 hBw2.size
                    have hxm : x2.tmod 50 = x2 % 50 := Int.tmod_eq_emod_of_nonneg hx0
                    have hym : y2.tmod 50 = y2 % 50 := Int.tmod_eq_emod_of_nonneg hy0
                    clear s0 s1
                    go_upto_region 37 with fail
                    go_cut [21] from 32 to 128 (fun v wx => ∃ bt, v = .pointer (some ⟨bt, 0, none⟩) ∧ wx.heap[bt]? = some (.cells (tcells (x2 % 50, y2 % 50)).toArray 76 (0, 0)) ∧ Below wr.heap.size wr wx)
                    case first =>
                      have hU0 : Upd (fun b => wr.heap.size ≤ b) wr wr.drew := Upd.of_drewN 1
                      have hU1 : Upd (fun b => wr.heap.size ≤ b) wr (wr.alloc (.cells #[.int .u64 0, .int .u64 0, .int .u64 0, .int .i64 0, .int .i64 0, .slice none 0 0] 76)).drew := hU0.alloc _
                      refine wp_region_held_drew (S := (fun z => z.cell? ⟨b2, off2 + j * 2, none⟩ = some (.int .u64 x2) ∧ z.cell? ⟨b2, off2 + j * 2 + 1, none⟩ = some (.int .u64 y2))) (by kernel_rfl) (⟨hU0.cell s0' (by simp only; omega), hU0.cell s1' (by simp only; omega)⟩) (fun hH => ?_)
                      refine wpAnyH_take (i := 0) (oi := _) (v := ?_) rfl (by kernel_rfl) (by kernel_rfl) (by kernel_rfl) (fun _ _ _ h => h) (Or.inl ⟨by rfl, ?_⟩) hH ?_
                      rotate_left 1
                      · intro w0 _; go_simp; try with_reducible rfl
                      try simp only [Act.put, List.getElem_toArray, List.getElem_cons_zero, List.setIfInBounds_toArray, List.set_cons_zero, List.set_cons_succ]
                      refine wpAnyH_take (i := 1) (oi := _) (v := ?_) rfl (by kernel_rfl) (by kernel_rfl) (by kernel_rfl) (fun _ _ _ h => h) (Or.inl ⟨by rfl, ?_⟩) hH ?_
                      rotate_left 1
                      · intro w0 _; go_simp; try with_reducible rfl
                      try simp only [Act.put, List.getElem_toArray, List.getElem_cons_zero, List.getElem_cons_succ, List.setIfInBounds_toArray, List.set_cons_zero, List.set_cons_succ]
                      refine wpAnyH_take (i := 2) (oi := _) (v := ?_) rfl (by kernel_rfl) (by kernel_rfl) (by kernel_rfl) (fun _ _ _ h => h) (Or.inl ⟨by rfl, ?_⟩) hH ?_
                      rotate_left 1
                      · intro w0 _; go_simp; try with_reducible rfl
                      try simp only [Act.put, List.getElem_toArray, List.getElem_cons_zero, List.getElem_cons_succ, List.setIfInBounds_toArray, List.set_cons_zero, List.set_cons_succ]
                      refine wpAnyH_take (i := 3) (oi := _) (v := ?_) rfl (by kernel_rfl) (by kernel_rfl) (by kernel_rfl) (fun _ _ _ h => h) (Or.inl ⟨by rfl, ?_⟩) hH ?_
                      rotate_left 1
                      · intro w0 _; go_simp; try with_reducible rfl
                      try simp only [Act.put, List.getElem_toArray, List.getElem_cons_zero, List.getElem_cons_succ, List.setIfInBounds_toArray, List.set_cons_zero, List.set_cons_succ]
                      refine wpAnyH_take (i := 4) (oi := _) (v := ?_) rfl (by kernel_rfl) (by kernel_rfl) (by kernel_rfl) (fun _ _ _ h => h) (Or.inl ⟨by rfl, ?_⟩) hH ?_
                      rotate_left 1
                      · intro w0 hSw; (try dsimp only at hSw); go_simp; try with_reducible rfl
                      try simp only [Act.put, List.getElem_toArray, List.getElem_cons_zero, List.getElem_cons_succ, List.setIfInBounds_toArray, List.set_cons_zero, List.set_cons_succ]
                      refine wpAnyH_take (i := 5) (oi := _) (v := ?_) rfl (by kernel_rfl) (by kernel_rfl) (by kernel_rfl) (fun _ _ _ h => h) (Or.inl ⟨by rfl, ?_⟩) hH ?_
                      rotate_left 1
                      · intro w0 _; go_simp; try with_reducible rfl
                      try simp only [Act.put, List.getElem_toArray, List.getElem_cons_zero, List.getElem_cons_succ, List.setIfInBounds_toArray, List.set_cons_zero, List.set_cons_succ]
                      refine wpAnyH_take (i := 6) (oi := _) (v := ?_) rfl (by kernel_rfl) (by kernel_rfl) (by kernel_rfl) (fun _ _ _ h => h) (Or.inl ⟨by rfl, ?_⟩) hH ?_
                      rotate_left 1
                      · intro w0 _; go_simp; try with_reducible rfl
                      try simp only [Act.put, List.getElem_toArray, List.getElem_cons_zero, List.getElem_cons_succ, List.setIfInBounds_toArray, List.set_cons_zero, List.set_cons_succ]
                      refine wpAnyH_take (i := 7) (oi := _) (v := ?_) rfl (by kernel_rfl) (by kernel_rfl) (by kernel_rfl) (fun _ _ _ h => h) (Or.inl ⟨by rfl, ?_⟩) hH ?_
                      rotate_left 1
                      · intro w0 _; go_simp; try with_reducible rfl
                      try simp only [Act.put, List.getElem_toArray, List.getElem_cons_zero, List.getElem_cons_succ, List.setIfInBounds_toArray, List.set_cons_zero, List.set_cons_succ]
                      refine wpAnyH_take (i := 8) (oi := _) (v := ?_) rfl (by kernel_rfl) (by kernel_rfl) (by kernel_rfl) (fun _ _ _ h => h) (Or.inl ⟨by rfl, ?_⟩) hH ?_
                      rotate_left 1
                      · intro w0 _; go_simp; try with_reducible rfl
                      try simp only [Act.put, List.getElem_toArray, List.getElem_cons_zero, List.getElem_cons_succ, List.setIfInBounds_toArray, List.set_cons_zero, List.set_cons_succ]
                      refine wpAnyH_take (i := 9) (oi := _) (v := ?_) rfl (by kernel_rfl) (by kernel_rfl) (by kernel_rfl) (fun _ _ _ h => h) (Or.inl ⟨by rfl, ?_⟩) hH ?_
                      rotate_left 1
                      · intro w0 _; go_simp; try with_reducible rfl
                      try simp only [Act.put, List.getElem_toArray, List.getElem_cons_zero, List.getElem_cons_succ, List.setIfInBounds_toArray, List.set_cons_zero, List.set_cons_succ]
                      refine wpAnyH_take (i := 10) (oi := _) (v := ?_) rfl (by kernel_rfl) (by kernel_rfl) (by kernel_rfl) (fun _ _ _ h => h) (Or.inl ⟨by rfl, ?_⟩) hH ?_
                      rotate_left 1
                      · intro w0 hSw; (try dsimp only at hSw); go_simp; try with_reducible rfl
                      try simp only [Act.put, List.getElem_toArray, List.getElem_cons_zero, List.getElem_cons_succ, List.setIfInBounds_toArray, List.set_cons_zero, List.set_cons_succ]
                      refine wpAnyH_take (i := 11) (oi := _) (v := ?_) rfl (by kernel_rfl) (by kernel_rfl) (by kernel_rfl) (fun _ _ _ h => h) (Or.inl ⟨by rfl, ?_⟩) hH ?_
                      rotate_left 1
                      · intro w0 _; go_simp; try with_reducible rfl
                      try simp only [Act.put, List.getElem_toArray, List.getElem_cons_zero, List.getElem_cons_succ, List.setIfInBounds_toArray, List.set_cons_zero, List.set_cons_succ]
                      refine wpAnyH_ready (rs := [12, 13]) (by kernel_rfl) (by simp) ?_
                      refine (AllReadyH.cons rfl (fun K hK => ?_) (AllReadyH.cons rfl (fun K hK => ?_) AllReadyH.nil))
                      · go_simp
                        go_at_call 34; (with_reducible refine (tuple_agg (x2 % 50) (y2 % 50) _).mono ?_); rintro e wt ⟨rfl, bt⟩; have hU2 := hU0.trans (Upd.same bt)
                        go_wp2_with fail
                        refine hK.out _ _ ?_ (fun hH2 => ?_)
                        · exact ⟨hU2.cell s0' (by simp only; omega), hU2.cell s1' (by simp only; omega)⟩
                        clear hK K hH
                        have hH := hH2
                        clear hH2
                        try simp only [Act.put, List.getElem_toArray, List.getElem_cons_zero, List.getElem_cons_succ, List.setIfInBounds_toArray, List.set_cons_zero, List.set_cons_succ]
                        refine wpAnyH_ready (rs := [13]) (by kernel_rfl) (by simp) ?_
                        refine AllReadyH.cons rfl (fun K hK => ?_) AllReadyH.nil
                        go_simp
                        refine hK.out _ _ ?_ (fun hH2 => ?_)
                        · exact ⟨(hU2.alloc _).cell s0' (by simp only; omega), (hU2.alloc _).cell s1' (by simp only; omega)⟩
                        clear hK K hH
                        have hH := hH2
                        clear hH2
                        try simp only [Act.put, List.getElem_toArray, List.getElem_cons_zero, List.getElem_cons_succ, List.setIfInBounds_toArray, List.set_cons_zero, List.set_cons_succ]
                        refine wpAnyH_ready (rs := [14]) (by kernel_rfl) (by simp) ?_
                        refine AllReadyH.cons rfl (fun K hK => ?_) AllReadyH.nil
                        go_simp
                        have hU6 := hU2.alloc (.cells (tcells (x2 % 50, y2 % 50)).toArray 76)
                        have hH6 := heap_new1 wt (.cells (tcells (x2 % 50, y2 % 50)).toArray 76)
                        refine hK.out _ _ ?_ (fun hH2 => ?_)
                        · exact ⟨hU6.cell s0' (by simp only; omega), hU6.cell s1' (by simp only; omega)⟩
                        clear hK K hH
                        have hH := hH2
                        clear hH2
                        try simp only [Act.put, List.getElem_toArray, List.getElem_cons_zero, List.getElem_cons_succ, List.setIfInBounds_toArray, List.set_cons_zero, List.set_cons_succ]
                        refine wpAnyH_done (by kernel_rfl) ?_ _
                        clear hH
                        go_wp2_with fail
                        go_meet
                        exact ⟨_, rfl, hH6, hU6.below (Nat.le_refl _) (fun b hb e => absurd hb (Nat.not_lt_of_le e))⟩
                      · go_simp
                        refine hK.out _ _ ?_ (fun hH2 => ?_)
                        · exact ⟨hU1.cell s0' (by simp only; omega), hU1.cell s1' (by simp only; omega)⟩
                        clear hK K hH
                        have hH := hH2
                        clear hH2
                        try simp only [Act.put, List.getElem_toArray, List.getElem_cons_zero, List.getElem_cons_succ, List.setIfInBounds_toArray, List.set_cons_zero, List.set_cons_succ]
                        refine wpAnyH_ready (rs := [12]) (by kernel_rfl) (by simp) ?_
                        refine AllReadyH.cons rfl (fun K hK => ?_) AllReadyH.nil
                        go_simp
                        go_at_call 34; (with_reducible refine (tuple_agg (x2 % 50) (y2 % 50) _).mono ?_); rintro e wt ⟨rfl, bt⟩; have hU2 := hU1.trans (Upd.same bt)
                        go_wp2_with fail
                        have hzz := (Upd.same (S := fun _ => False) bt).heap (heap_new1 wr _) id
                        have kz0 := cell_of_block hzz (i := 0) rfl
                        have fz0 : wt.frozen? ⟨wr.heap.size, 0, none⟩ = false := free_of_block hzz
                        have kz1 := cell_of_block hzz (i := 1) rfl
                        have fz1 : wt.frozen? ⟨wr.heap.size, 1, none⟩ = false := free_of_block hzz
                        have kz2 := cell_of_block hzz (i := 2) rfl
                        have fz2 : wt.frozen? ⟨wr.heap.size, 2, none⟩ = false := free_of_block hzz
                        have kz3 := cell_of_block hzz (i := 3) rfl
                        have fz3 : wt.frozen? ⟨wr.heap.size, 3, none⟩ = false := free_of_block hzz
                        have kz4 := cell_of_block hzz (i := 4) rfl
                        have fz4 : wt.frozen? ⟨wr.heap.size, 4, none⟩ = false := free_of_block hzz
                        have kz5 := cell_of_block hzz (i := 5) rfl
                        have fz5 : wt.frozen? ⟨wr.heap.size, 5, none⟩ = false := free_of_block hzz
                        refine hK.out _ _ ?_ (fun hH2 => ?_)
                        · exact ⟨hU2.cell s0' (by simp only; omega), hU2.cell s1' (by simp only; omega)⟩
                        clear hK K hH
                        have hH := hH2
                        clear hH2
                        try simp only [Act.put, List.getElem_toArray, List.getElem_cons_zero, List.getElem_cons_succ, List.setIfInBounds_toArray, List.set_cons_zero, List.set_cons_succ]
                        refine wpAnyH_ready (rs := [14]) (by kernel_rfl) (by simp) ?_
                        refine AllReadyH.cons rfl (fun K hK => ?_) AllReadyH.nil
                        go_simp
                        have hU6 := set6_upd hU2 (b := wr.heap.size) (fun h => absurd h (Nat.lt_irrefl _)) (.int .u64 0) (.int .u64 (x2 % 50)) (.int .u64 (y2 % 50)) (.int .i64 0) (.int .i64 0) (.slice none 0 0)
                        have hH6 := set6_heap hzz (.int .u64 0) (.int .u64 (x2 % 50)) (.int .u64 (y2 % 50)) (.int .i64 0) (.int .i64 0) (.slice none 0 0)
                        refine hK.out _ _ ?_ (fun hH2 => ?_)
                        · exact ⟨hU6.cell s0' (by simp only; omega), hU6.cell s1' (by simp only; omega)⟩
                        clear hK K hH
                        have hH := hH2
                        clear hH2
                        try simp only [Act.put, List.getElem_toArray, List.getElem_cons_zero, List.getElem_cons_succ, List.setIfInBounds_toArray, List.set_cons_zero, List.set_cons_succ]
                        refine wpAnyH_done (by kernel_rfl) ?_ _
                        clear hH
                        go_wp2_with fail
                        go_meet
                        exact ⟨_, rfl, hH6, hU6.below (Nat.le_refl _) (fun b hb e => absurd hb (Nat.not_lt_of_le e))⟩
                    case rest =>
                      clear hst hst1 hxm hym s0' s1' hBw2
                      obtain ⟨bt, hbt, hH6, hB6⟩ := hcut
                      subst hbt
                      have hRc := hRk.same hB6
                      obtain ⟨tx, htx⟩ : ∃ tx, tx = x2 % 50 := ⟨_, rfl⟩
                      obtain ⟨ty, hty⟩ : ∃ ty, ty = y2 % 50 := ⟨_, rfl⟩
                      rw [← htx, ← hty] at hH6
                      clear htx hty
                      have k0 : wc.cell? ⟨bt, 0, none⟩ = some (.int .u64 0) := cell_of_block hH6 rfl
                      have k1 : wc.cell? ⟨bt, 1, none⟩ = some (.int .u64 tx) := cell_of_block hH6 rfl
                      have k2 : wc.cell? ⟨bt, 2, none⟩ = some (.int .u64 ty) := cell_of_block hH6 rfl
                      have k3 : wc.cell? ⟨bt, 3, none⟩ = some (.int .i64 0) := cell_of_block hH6 rfl
                      have k4 : wc.cell? ⟨bt, 4, none⟩ = some (.int .i64 0) := cell_of_block hH6 rfl
                      have k5 : wc.cell? ⟨bt, 5, none⟩ = some (.slice none 0 0) := cell_of_block hH6 rfl
                      have hca := dead_at hRc.l tx ty hz
                      have hio := HH.out tx ty
                      obtain ⟨vd, hvd⟩ : ∃ vd, vd = deadB 1 L2 tx ty hz := ⟨_, rfl⟩
                      rw [← hvd] at hca hio
                      have HIO := Lib.hid hio
                      clear hvd hH6 hRk hio
                      unfold tup at hca
                      have HCA := Lib.hid hca
                      clear hca
                      cases vd with
                      | false =>
                        go_wp2_with (go_at_call 38; (with_reducible refine HCA.out.mono ?_); rintro e wd ⟨rfl, hBd⟩)
                        have hRd := hRc.same hBd
                        go_roundw
                        case rel => exact ⟨j + 1, _, _, _, _, _, by omega, by go_num, hRd, hV, by omega, by omega, by omega, by omega⟩
                        case measure => simp [intOf]; omega
                      | true =>
                        go_wp2_with fail
                        refine HCA.out.mono ?_
                        rintro e wd ⟨rfl, hBd⟩
                        have hRd := hRc.same hBd
                        have m0 := keeper hBd k0
                        have m1 := keeper hBd k1
                        have m2 := keeper hBd k2
                        have m3 := keeper hBd k3
                        have m4 := keeper hBd k4
                        have m5 := keeper hBd k5
                        clear k0 k1 k2 k3 k4 k5 HCA hRc
                        have hdd := hRd.d
                        go_wp2_with (at_builtin; refine wpList_append_mine rfl (.tmp 124) (.tmp 126) 72 rfl 0 76 i76 (.agg #[.int .u64 0, .int .u64 0, .int .u64 0, .int .i64 0, .int .i64 0, .slice none 0 0]) 6 64 Try.underlying72 hi76 hz760 hz761 hz762 rfl (by decide) _ _ _ rfl (World.ownsRow.alloc hdd _) ⟨wd.heap.size, 0, none⟩ 1 1 (tcells (tx, ty)) rfl rfl ?c1 ?c2 ?c3 ?c4 ?c5 ?_)
                        case c1 => exact news_block (heap_new1 wd _)
                        case c2 => exact tcells_one _
                        case c3 => unfold maxLen; omega
                        case c4 => omega
                        case c5 => omega
                        intro v' w5 hown' hupd hnew
                        have hRa := hRd.same ((Below.refl _ _).alloc (Nat.le_refl _) (.cells (tcells (tx, ty)).toArray 76))
                        have hRg := hRa.grow hown' hupd (fun g hg => by have := hnew g hg; simpa using this)
                        have hVg := hV.snoc (t := (tx, ty)) (HIO.out.1 trivial)
                        clear hown' hupd hnew hRa
                        go_wp2_with fail
                        go_roundw
                        case rel => exact ⟨j + 1, _, _, _, _, _, by omega, by go_num, hRg, hVg, by omega, by omega, by simp; omega, by simp; omega⟩
                        case measure => simp [intOf]; omega
                  · have hst1 : ¬ (j : Int) < n2 := by omega
                    have hst2 : decide ((j : Int) < n2) = false := by simp; omega
                    go_wp2_with fail
                    go_roundw
                    case rel => exact ⟨j + 1, _, _, _, _, _, by omega, by go_num, hRk, hV, by omega, by omega, by omega, by omega⟩
                    case measure => simp [intOf]; omega
      · have hj50 : ¬ (j : Int) < 50 := by omega
        go_wp2_with fail
        go_ret
        exact ⟨rfl, hBw.trans (((Below.refl _ _).alloc (Nat.le_refl _) _).mono hBw.size)⟩
    · have hjl : ¬ (j : Int) < n1 := by omega
      go_wp2_with fail
      go_ret
      exact ⟨rfl, hBw⟩
end Go.Proofs.Ytdohkjpapmkhjaa
