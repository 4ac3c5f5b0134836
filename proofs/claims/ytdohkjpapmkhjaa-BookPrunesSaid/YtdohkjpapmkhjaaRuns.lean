/-
  ClogRuns, the walk: those that run are those that have begun and are not over: a map of those that are open, kept beside the log.
-/
import Derived.Test.YtdohkjpapmkhjaaOnce
namespace Go.Proofs.Ytdohkjpapmkhjaa
open Go.RowKit

theorem zero4 (w : World) : (zeroValue 4).run Try.prog w = .ok (.bool false) w := by kernel_rfl

/-- The map holds those that run. -/
structure Open (f : Int) (L : List Nat) (m : List (Int × Value)) : Prop where
  get : ∀ y, mget m y = if stt f L y = 1 then some (.bool true) else none
  once : Once m
  cnt : m.length = (running f L).length

theorem Open.start (f : Int) : Open f [] [] := ⟨fun y => by simp [mget_nil, stt], by simp [Once], rfl⟩
theorem Open.begin {f : Int} {L : List Nat} {m : List (Int × Value)} (h : Open f L m) : Open f (L ++ [1]) (mset m (f + (L.length : Int)) (.bool true)) := by
  have h0 : stt f L (f + (L.length : Int)) = 0 := stt_hi (Int.le_refl _)
  have hg := h.get (f + (L.length : Int))
  rw [h0, if_neg (by decide)] at hg
  refine ⟨fun y => ?_, h.once.mset _ _, ?_⟩
  · rw [mget_mset, stt_snoc, h.get]
    by_cases e : y = f + (L.length : Int)
    · rw [if_pos e, if_pos e, if_pos rfl]
    · rw [if_neg e, if_neg e]
  · rw [length_mset, hg, running_snoc, ← h.cnt]; rfl
theorem Open.over {f : Int} {L : List Nat} {m : List (Int × Value)} (h : Open f L m) (x : Int) {s : Nat} (hs : s ≠ 1) : Open f (ended f L x s) (mdel m x) := by
  have hg := h.get x
  refine ⟨fun y => ?_, h.once.mdel _, ?_⟩
  · rw [mget_mdel h.once, stt_ended, h.get]
    by_cases e : y = x
    · subst e
      by_cases e2 : stt f L y = 1 <;> simp [e2, hs]
    · simp [e]
  · have h1 := running_ended f L x s hs
    have h2 := h.cnt
    rw [length_mdel, hg]
    by_cases e : stt f L x = 1
    · rw [if_pos e] at h1 ⊢
      simp only [Option.isSome_some, if_true]; omega
    · rw [if_neg e] at h1 ⊢
      simp only [Option.isSome_none, Bool.false_eq_true, if_false]; omega

/-- Those that run, as a list, and what is known of it. -/
theorem Open.list {f : Int} {L : List Nat} {m : List (Int × Value)} (h : Open f L m) : ∃ xs, Hid (running f L = xs) ∧ m.length = xs.length ∧ Hid (xs.Pairwise (· < ·)) ∧ Hid (∀ y ∈ xs, stt f L y = 1 ∧ mget m y = some (.bool true)) ∧ xs.length ≤ L.length := by
  refine ⟨running f L, rfl, h.cnt, running_rising f L, fun y hy => ?_, runTo_le f L L.length⟩
  have h1 := (mem_running f L y).1 hy
  exact ⟨h1, by rw [h.get, if_pos h1]⟩

/-- The log and the map, apart, in memory made behind w0. -/
structure Held (w0 : World) (b0 p : Nat) (f : Int) (c : Nat → Nat) (w : World) (L : List Nat) (m : List (Int × Value)) : Prop where
  l : LogAt c 1 w p f L
  m : MapOf (Value.int .u64) w b0 m
  two : c b0 = 2
  col : ∀ b, b < w0.heap.size → c b = 0
  below : Below w0.heap.size w0 w
  own : w0.heap.size ≤ b0

section
variable {w0 : World} {b0 p : Nat} {f : Int} {c : Nat → Nat} {w w' : World} {L : List Nat} {m : List (Int × Value)}
theorem Held.same (h : Held w0 b0 p f c w L m) (u : Below w.heap.size w w') : Held w0 b0 p f c w' L m := ⟨h.l.same u, h.m.same u, h.two, h.col, h.below.trans (u.mono h.below.size), h.own⟩
theorem Held.alloc (h : Held w0 b0 p f c w L m) (o : Obj) : Held w0 b0 p f c (w.alloc o) L m := h.same ((Below.refl _ _).alloc (Nat.le_refl _) o)
theorem Held.drewN (h : Held w0 b0 p f c w L m) (n : Nat) : Held w0 b0 p f c (w.drewN n) L m := ⟨h.l.drewN n, h.m.drewN n, h.two, h.col, h.below.trans below_drewN, h.own⟩
theorem Held.map (h : Held w0 b0 p f c w L m) {m' : List (Int × Value)} (hm : MapOf (Value.int .u64) w' b0 m') (u : Upd (fun k => k = b0) w w') : Held w0 b0 p f c w' L m' :=
  ⟨h.l.upd u (fun b e1 e2 => by subst e2; have := h.two; omega), hm, h.two, h.col, h.below.trans (u.below h.below.size (fun b hb e => by have := h.own; omega)), h.own⟩
theorem held_commit (h : Held w0 b0 p f c w L m) (x : Int) : Calls Try.prog 23 #[.pointer (some ⟨p, 0, none⟩), .int .u64 x] w fun e w' => e = .returned (.int .i64 (endErr f L x)) ∧ Held w0 b0 p f c w' (ended f L x 2) m := by
  refine (commit_at h.l x).mono fun e w' ⟨h1, h2, h3⟩ => ⟨h1, h2, h.m.upd h3 (by have := h.two; omega), h.two, h.col, h.below.trans (h3.below h.below.size (fun b hb e => by have := h.col b hb; omega)), h.own⟩
theorem held_abort (h : Held w0 b0 p f c w L m) (x : Int) : Calls Try.prog 25 #[.pointer (some ⟨p, 0, none⟩), .int .u64 x] w fun e w' => e = .returned (.int .i64 (endErr f L x)) ∧ Held w0 b0 p f c w' (ended f L x 3) m := by
  refine (abort_at h.l x).mono fun e w' ⟨h1, h2, h3⟩ => ⟨h1, h2, h.m.upd h3 (by have := h.two; omega), h.two, h.col, h.below.trans (h3.below h.below.size (fun b hb e => by have := h.col b hb; omega)), h.own⟩
theorem held_begin (h : Held w0 b0 p f c w L m) (hf : f + L.length ≤ 1099511627776) : Calls Try.prog 18 #[.pointer (some ⟨p, 0, none⟩)] w fun e w' => e = .returned (.tuple #[.int .u64 (f + L.length), .int .i64 0]) ∧ ∃ c', Held w0 b0 p f c' w' (L ++ [1]) m := by
  refine (begin_at h.l hf).mono fun e w' ⟨h1, h2, h3⟩ => ⟨h1, _, h2, h.m.upd h3 (by have := h.two; omega), (col_old h.m.lt).trans h.two, col_zero h.col h.below.size, h.below.trans (h3.below h.below.size (fun b hb e => by have := h.col b hb; omega)), h.own⟩
end

set_option maxHeartbeats 2000000 in
set_option maxRecDepth 100000 in
theorem clogRuns_any (first : Int) (a : Option Addr) (len cap : Nat) (w : World) (h0 : 0 ≤ first) (_hlen : len ≤ 9223372036854775807) (hs : Script3 w a len) :
    Calls Try.prog 6 #[.int .u64 first, .slice a len cap] w fun e w' => e = .returned (.bool true) ∧ Below w.heap.size w w' := by
  have hmm := @run_makeMap Try.prog
  have HS := Lib.hid hs; clear hs
  obtain ⟨f, hf⟩ : ∃ f, 1 + first % 1000000 = f := ⟨_, rfl⟩
  have hf1 : 1 ≤ f := by omega
  have hf2 : f ≤ 1000000 := by omega
  go_enter Try.func6, Try.ntmps6
  go_wp2_with fail
  refine (awake_nine w).mono ?_
  rintro e w1 ⟨rfl, b1⟩
  go_wp2_with fail
  refine (new_own f w1 hf1 (by omega)).mono ?_
  rintro e w2 ⟨rfl, l2, b2⟩
  go_wp2_with fail
  have hh : Held w1 w2.heap.size w1.heap.size f (col (own w1.heap.size) w2.heap.size 2) (w2.alloc (.map #[] 0)) [] [] :=
    ⟨(l2.recol (fun b hb => col_old hb)).same ((Below.refl _ _).alloc (Nat.le_refl _) _), MapOf.made w2 (Value.int .u64), col_new (Nat.le_refl _), fun b hb => by rw [col_old (Nat.lt_of_lt_of_le hb b2.size), own, col_old hb], b2.alloc b2.size _, b2.size⟩
  go_loopw [32, 8] (fun i nn wr => ∃ (j : Nat) (L : List Nat) (m : List (Int × Value)) (c : Nat → Nat), j ≤ len ∧ i = .int .i64 j ∧ nn = .int .i64 L.length ∧ L.length ≤ j ∧ Held w1 w2.heap.size w1.heap.size f c wr L m ∧ Open f L m ∧ L.length ≤ 60) (fun i _ _ => len - (intOf i).toNat)
  case atStart => exact ⟨0, [], [], _, Nat.zero_le _, rfl, rfl, Nat.le_refl _, hh, Open.start f, by decide⟩
  case round =>
    clear hh
    obtain ⟨wo, hwo⟩ : ∃ wo, wo = w2.heap.size := ⟨_, rfl⟩
    obtain ⟨j, L, m, c, hj, rfl, rfl, hLj, hh, ho, hL60⟩ := hrel
    clear hwo
    by_cases hlt : j < len
    · obtain ⟨b, off, d, x, n, ha, hb, e0, e1, e2, d0, d1, x0, x1⟩ := HS.out j hlt
      subst ha
      have hBw := b1.trans (hh.below.mono b1.size)
      have e0' := (hBw.cell (p := ⟨b, off + j * 3, none⟩) hb).trans e0
      have e1' := (hBw.cell (p := ⟨b, off + j * 3 + 1, none⟩) hb).trans e1
      have e2' := (hBw.cell (p := ⟨b, off + j * 3 + 2, none⟩) hb).trans e2
      clear e0 e1 e2 hBw
      by_cases h60 : j < 60
      · have hj60 : (j : Int) < 60 := by omega
        have hL59 : (L.length : Int) < 60 := by omega
        have hex : ∀ b, (Obj.cells #[.int .u8 d, .int .u64 x, .bool n] 40) = b → True := fun _ _ => trivial
        clear hex
        go_wp2_with (first
          | (go_at_call 23; (with_reducible refine (held_commit (hh.alloc _) _).mono ?_); rintro e wa ⟨rfl, hha⟩; have hoB := ho.over (f + x % 64) (show (2 : Nat) ≠ 1 by decide); have hl' := length_ended f L (f + x % 64) 2)
          | (go_at_call 25; (with_reducible refine (held_abort (hh.alloc _) _).mono ?_); rintro e wa ⟨rfl, hha⟩; have hoB := ho.over (f + x % 64) (show (3 : Nat) ≠ 1 by decide); have hl' := length_ended f L (f + x % 64) 3)
          | (go_at_call 18; (with_reducible refine (held_begin (hh.alloc _) (by omega)).mono ?_); rintro e wa ⟨rfl, ca, hha⟩; have hoB := ho.begin; have hl' : (L ++ [1]).length = L.length + 1 := (by simp); have hlk : (Instr.lookup 54 (.map (some w2.heap.size)) (.int .u64 (f + (L.length : Int))) false).run Try.prog wa = .ok (.bool false) wa := (by rw [run_lookup_map hha.m key23 Try.underlying54 (zero4 _), ho.get, stt_hi (Int.le_refl _)]; rfl))
          | (at_delete; refine wpList_delete_map rfl _ _ 54 23 rfl 4 key23 Try.underlying54 _ _ rfl hha.m (f + x % 64) rfl ?_; intro wb hmb hub)
          | (at_mapUpdate; refine wpList_update_map rfl _ _ _ 54 rfl 23 4 key23 Try.underlying54 _ _ rfl hha.m (f + (L.length : Int)) (.bool true) rfl rfl ?_; intro wb hmb hub; clear hlk))
        all_goals
          have hB := hha.map hmb hub
          clear hha hmb hub ho hh e0' e1' e2'
          refine (all_at hB.l).mono ?_
          rintro e wd ⟨v, rfl, own5, bd⟩
          have hD := hB.same bd
          obtain ⟨xs, hxs, hcnt, hrise, hmem, hrl⟩ := hoB.list
          rw [hxs.out] at own5
          obtain ⟨av, capv, rfl⟩ := ownsRow_slice own5
          go_wp2_with (first
            | (at_len; refine wpList_len_map rfl _ 54 rfl 23 4 Try.underlying54 _ _ rfl hD.m ?_)
            | (go_at_call 20; (with_reducible refine (next_at hD.l).mono ?_); rintro e wn ⟨rfl, nn, rfl⟩))
          have hxl : xs.length ≤ 60 := by omega
          go_loopw [103] (fun i wi => ∃ k q : Nat, k ≤ xs.length ∧ i = .int .i64 k ∧ wi = wd.drewN q) (fun i _ => xs.length - (intOf i).toNat)
          case atStart => exact ⟨0, nn, Nat.zero_le _, rfl, rfl⟩
          case round =>
            obtain ⟨k, q, hk, rfl, rfl⟩ := hrel
            by_cases hkl : k < xs.length
            · have hy : (u64s xs)[k]? = some (.int .u64 xs[k]) := by simp [u64s, hkl]
              obtain ⟨g, gc, hgv, cy, _, _, _⟩ := ownsRow_cell1 own5 hy
              simp only [Value.slice.injEq] at hgv
              obtain ⟨rfl, _, rfl⟩ := hgv
              obtain ⟨hs1, hs2⟩ := hmem.out xs[k] (List.getElem_mem hkl)
              have hlk : ∀ n, (Instr.lookup 54 (.map (some w2.heap.size)) (.int .u64 xs[k]) false).run Try.prog (wd.drewN n) = .ok (.bool true) (wd.drewN n) := fun n => by
                rw [run_lookup_map (hD.m.drewN n) key23 Try.underlying54 (zero4 _), hs2]; rfl
              have hst : ∀ n, Calls Try.prog 21 #[.pointer (some ⟨w1.heap.size, 0, none⟩), .int .u64 xs[k]] (wd.drewN n) fun e w' => e = .returned (.int .i64 1) ∧ ∃ k, w' = (wd.drewN n).drewN k := fun n => by
                have := state_at (hD.l.drewN n) xs[k]
                rw [hs1] at this; exact this
              have HST := Lib.hid hst; clear hst hs1 hs2
              have hpre : 0 < k → ∃ z, wd.cell? ⟨g, k - 1, none⟩ = some (.int .u64 z) ∧ z < xs[k] := fun h0 => by
                have hz : (u64s xs)[k - 1]? = some (.int .u64 xs[k - 1]) := by simp [u64s, show k - 1 < xs.length by omega]
                obtain ⟨g', gc', hgv, cz, _, _, _⟩ := ownsRow_cell1 own5 hz
                simp only [Value.slice.injEq, Option.some.injEq, Addr.mk.injEq] at hgv
                obtain ⟨⟨rfl, _⟩, _, rfl⟩ := hgv
                exact ⟨_, cz, List.pairwise_iff_getElem.1 hrise.out (k - 1) k (by omega) hkl (by omega)⟩
              obtain ⟨y, hyy⟩ : ∃ y, y = xs[k] := ⟨_, rfl⟩
              rw [← hyy] at cy hlk HST hpre
              clear hy hyy
              by_cases hk0 : k = 0
              · subst hk0
                clear hpre
                go_wp2_with (go_at_call 21; (with_reducible refine (HST.out _).mono ?_); rintro e wz ⟨rfl, qz, rfl⟩)
                go_roundw
                case rel => exact ⟨1, _, by omega, by go_num, rfl⟩
                case measure => simp [intOf]; omega
              · obtain ⟨z, cz, hzy⟩ := hpre (by omega)
                clear hpre
                have hk1 : decide ((0 : Int) < (k : Int)) = true := by simp; omega
                have hk2 : (1 : Int) ≤ (k : Int) := by omega
                have hzy2 : decide (y ≤ z) = false := by simp; omega
                have hkn : ((k : Int) - 1).toNat = k - 1 := by omega
                go_wp2_with (go_at_call 21; (with_reducible refine (HST.out _).mono ?_); rintro e wz ⟨rfl, qz, rfl⟩)
                go_roundw
                case rel => exact ⟨k + 1, _, by omega, by go_num, rfl⟩
                case measure => simp [intOf]; omega
            · have hkx : ¬ (k : Int) < xs.length := by omega
              go_wp2_with fail
              go_roundw
              case rel => exact ⟨j + 1, _, _, _, by omega, by go_num, by rw [hl']; all_goals go_num, by omega, hD.drewN _, hoB, by omega⟩
              case measure => simp [intOf]; omega
      · have hj60 : ¬ (j : Int) < 60 := by omega
        go_wp2_with fail
        go_ret
        exact ⟨rfl, b1.trans ((hh.alloc (.cells #[.int .u8 d, .int .u64 x, .bool n] 40)).below.mono b1.size)⟩
    · have hjl : ¬ (j : Int) < len := by omega
      go_wp2_with fail
      go_ret
      exact ⟨rfl, b1.trans (hh.below.mono b1.size)⟩
end Go.Proofs.Ytdohkjpapmkhjaa
