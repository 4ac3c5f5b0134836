/-
  SnapDead, the walk: what is dead below the horizon of those that look is seen by none of them, nor by those that come.
-/
import Derived.Test.YtdohkjpapmkhjaaPlay
import Derived.Test.YtdohkjpapmkhjaaAwakeTen
import Derived.Test.YtdohkjpapmkhjaaRests
namespace Go.Proofs.Ytdohkjpapmkhjaa
open Go.RowKit

/-! ### the plain law -/
def Gone (L : List Nat) (t : Int × Int) : Prop := stt 1 L t.1 = 3 ∨ (t.2 ≠ 0 ∧ stt 1 L t.2 = 2)
def Blind (L : List Nat) (s : Snp) (t : Int × Int) : Prop := stt 1 L t.1 = 3 ∨ (t.2 ≠ 0 ∧ stt 1 L t.2 = 2 ∧ t.2 < s.xmax ∧ t.2 ∉ s.run)
theorem Blind.unseen {L : List Nat} {s : Snp} {t : Int × Int} (h : Blind L s t) (h1 : t.1 ≠ s.own) (_h2 : t.2 ≠ s.own) : vis 1 L s t.1 t.2 = false := by
  unfold vis
  rcases h with h | ⟨h3, h4, h5, h6⟩
  · have : sees 1 L s t.1 = false := by
      unfold sees
      have e1 : (t.1 == s.own) = false := by rw [beq_eq_false_iff_ne]; exact h1
      have e2 : (stt 1 L t.1 == 2) = false := by rw [h]; rfl
      rw [e1, e2]; simp
    rw [this]; rfl
  · have : sees 1 L s t.2 = true := by
      unfold sees
      have e2 : decide (t.2 < s.xmax) = true := by simpa using h5
      have e3 : s.run.contains t.2 = false := by simpa using h6
      rw [e2, e3, h4]; simp
    have e4 : (t.2 == 0) = false := by rw [beq_eq_false_iff_ne]; exact h3
    rw [this, e4]; simp
theorem stt_stays {L : List Nat} {y : Int} {n : Nat} (h : stt 1 L y = n) (h1 : n ≠ 1) (x : Int) (q : Nat) : stt 1 (ended 1 L x q) y = n := by
  rw [stt_ended, if_neg]
  · exact h
  · rintro ⟨rfl, h4⟩; omega
theorem stt_stays_begin {L : List Nat} {y : Int} {n : Nat} (h : stt 1 L y = n) (h1 : n ≠ 0) : stt 1 (L ++ [1]) y = n := by
  rw [stt_snoc, if_neg]
  · exact h
  · have := (stt_lt (f := 1) (L := L) (x := y) (by omega)).2; omega

/-- None that looks sees what is dead. -/
structure Blinds (L : List Nat) (ss : List (Snp × Value)) (D : List (Int × Int)) : Prop where
  gone : ∀ t ∈ D, Gone L t
  blind : ∀ z ∈ ss, ∀ t ∈ D, Blind L z.1 t
section
variable {L : List Nat} {ss : List (Snp × Value)} {D : List (Int × Int)}
theorem Blinds.ended (h : Blinds L ss D) (x : Int) (q : Nat) : Blinds (Ytdohkjpapmkhjaa.ended 1 L x q) ss D :=
  ⟨fun t ht => (h.gone t ht).imp (fun e => stt_stays e (by decide) x q) (fun e => ⟨e.1, stt_stays e.2 (by decide) x q⟩),
    fun z hz t ht => (h.blind z hz t ht).imp (fun e => stt_stays e (by decide) x q) (fun e => ⟨e.1, stt_stays e.2.1 (by decide) x q, e.2.2⟩)⟩
theorem Blinds.begin (h : Blinds L ss D) (x : Int) (rv : Value) : Blinds (L ++ [1]) (ss ++ [(take 1 (L ++ [1]) x, rv)]) D := by
  refine ⟨fun t ht => (h.gone t ht).imp (fun e => stt_stays_begin e (by decide)) (fun e => ⟨e.1, stt_stays_begin e.2 (by decide)⟩), fun z hz t ht => ?_⟩
  rcases List.mem_append.1 hz with hz | hz
  · exact (h.blind z hz t ht).imp (fun e => stt_stays_begin e (by decide)) (fun e => ⟨e.1, stt_stays_begin e.2.1 (by decide), e.2.2⟩)
  · obtain rfl := List.mem_singleton.1 hz
    rcases h.gone t ht with e | ⟨e1, e2⟩
    · exact .inl (stt_stays_begin e (by decide))
    · have e3 := stt_stays_begin e2 (by decide)
      refine .inr ⟨e1, e3, (stt_lt (f := 1) (by omega)).2, fun hm => ?_⟩
      have := (mem_running _ _ _).1 (List.mem_filter.1 hm).1
      omega
theorem Blinds.start {_S : List Snp} (hf : ∀ z ∈ ss, Fits L z.1) (hd : ∀ t ∈ D, DeadP L (fun b => ∀ y ∈ ss.map (·.1.xmin), b < y) t) : Blinds L ss D :=
  ⟨fun t ht => (hd t ht).imp id (fun e => ⟨e.1, e.2.1⟩), fun z hz t ht => (hd t ht).imp id (fun e => by
    have h1 := e.2.2 _ (List.mem_map.2 ⟨z, hz, rfl⟩)
    rw [(hf z hz).min, lt_least2] at h1
    exact ⟨e.1, e.2.1, h1.1, fun hm => by have := h1.2 _ hm; omega⟩)⟩
end

/-! ### memory -/
structure Dd (w0 : World) (pb pl : Nat) (sv dv : Value) (c : Nat → Nat) (w : World) (L : List Nat) (ss : List (Snp × Value)) (D : List (Int × Int)) : Prop where
  c0 : w.cell? ⟨pb, 0, none⟩ = some (.pointer (some ⟨pl, 0, none⟩))
  own : c pb = 5
  l : LogAt c 1 w pl 1 L
  s : Snaps c 3 w sv ss
  d : w.ownsRow 0 76 6 dv D.length (D.flatMap tcells)
  dc : ∀ g, dv.ownBlock = some g → c g = 4
  col : ∀ b, b < w0.heap.size → c b = 0
  below : Below w0.heap.size w0 w
section
variable {w0 : World} {pb pl : Nat} {sv dv : Value} {c : Nat → Nat} {w w' : World} {L L' : List Nat} {ss : List (Snp × Value)} {D : List (Int × Int)}
theorem Dd.same (h : Dd w0 pb pl sv dv c w L ss D) (u : Below w.heap.size w w') : Dd w0 pb pl sv dv c w' L ss D :=
  ⟨keeper u h.c0, h.own, h.l.same u, h.s.same u, ownsRow_upd (S := fun _ => False) h.d (Upd.same u) (fun _ _ x => x), h.dc, h.col, h.below.trans (u.mono h.below.size)⟩
theorem Dd.recol (h : Dd w0 pb pl sv dv c w L ss D) {c' : Nat → Nat} (hold : ∀ b, b < w.heap.size → c' b = c b) : Dd w0 pb pl sv dv c' w L ss D :=
  ⟨h.c0, (hold _ (World.block_lt_of_cell? w _ h.c0)).trans h.own, h.l.recol hold, h.s.recol hold, h.d, fun g hg => (hold g (World.ownsRow.lt h.d g hg).2).trans (h.dc g hg), fun b hb => (hold b (Nat.lt_of_lt_of_le hb h.below.size)).trans (h.col b hb), h.below⟩
theorem Dd.log (h : Dd w0 pb pl sv dv c w L ss D) (hl : LogAt c 1 w' pl 1 L') (u : Upd (fun b => c b = 1) w w') : Dd w0 pb pl sv dv c w' L' ss D :=
  ⟨u.cell h.c0 (by have := h.own; simp only; omega), h.own, hl, h.s.upd u (fun b e e' => by omega), ownsRow_upd h.d u (fun b hb e => by have := h.dc b hb; omega), h.dc, h.col, h.below.trans (u.below h.below.size (fun b hb e => by have := h.col b hb; omega))⟩
theorem dd_commit (h : Dd w0 pb pl sv dv c w L ss D) (x : Int) : Calls Try.prog 23 #[.pointer (some ⟨pl, 0, none⟩), .int .u64 x] w fun e w' => e = .returned (.int .i64 (endErr 1 L x)) ∧ Dd w0 pb pl sv dv c w' (ended 1 L x 2) ss D ∧ Upd (fun b => c b = 1) w w' := by
  refine (commit_at h.l x).mono fun e w' ⟨h1, h2, h3⟩ => ⟨h1, h.log h2 h3, h3⟩
theorem dd_abort (h : Dd w0 pb pl sv dv c w L ss D) (x : Int) : Calls Try.prog 25 #[.pointer (some ⟨pl, 0, none⟩), .int .u64 x] w fun e w' => e = .returned (.int .i64 (endErr 1 L x)) ∧ Dd w0 pb pl sv dv c w' (ended 1 L x 3) ss D ∧ Upd (fun b => c b = 1) w w' := by
  refine (abort_at h.l x).mono fun e w' ⟨h1, h2, h3⟩ => ⟨h1, h.log h2 h3, h3⟩
theorem dd_begin (h : Dd w0 pb pl sv dv c w L ss D) (hf : 1 + (L.length : Int) ≤ 1099511627776) : Calls Try.prog 18 #[.pointer (some ⟨pl, 0, none⟩)] w fun e w' => e = .returned (.tuple #[.int .u64 (1 + L.length), .int .i64 0]) ∧ ∃ c', Dd w0 pb pl sv dv c' w' (L ++ [1]) ss D := by
  refine (begin_at h.l hf).mono fun e w' ⟨h1, h2, h3⟩ => ?_
  have hold : ∀ b, b < w.heap.size → col c w.heap.size 1 b = c b := fun b hb => col_old hb
  exact ⟨h1, _, (h.recol hold).log h2 (h3.mono (fun b hb e => (hold b hb).trans e))⟩
theorem dd_take (h : Dd w0 pb pl sv dv c w L ss D) (x : Int) : Calls Try.prog 36 #[.pointer (some ⟨pl, 0, none⟩), .int .u64 x] w fun e w' => ∃ rv, e = .returned ((take 1 L x).val rv) ∧ Run w' rv (take 1 L x).run ∧
    ∃ c', (∀ g, rv.ownBlock = some g → c' g = 3) ∧ Dd w0 pb pl sv dv c' w' L ss D := by
  refine (take_at h.l x).mono fun e w' ⟨rv, h1, h2, h3, h4⟩ => ⟨rv, h1, h2, col c w.heap.size 3, fun g hg => col_new (h3 g hg), (h.recol (fun b hb => col_old hb)).same h4⟩
/-- One that looks more. -/
theorem Dd.look (h : Dd w0 pb pl sv dv c w L ss D) {s : Snp} {rv sv' : Value} (hr : Run w rv s.run) (hg : ∀ g, rv.ownBlock = some g → c g = 3)
    (hs : w'.ownsRow 0 66 4 sv' (ss.length + 1) (ss.flatMap snapCells ++ snapCells (s, rv))) (u : Upd (fun b => sv.ownBlock = some b) w w') (hn : ∀ g, sv'.ownBlock = some g → sv.ownBlock = some g ∨ w.heap.size ≤ g) (hl : ss.length ≤ 100000) :
    Dd w0 pb pl sv' dv (Ytdohkjpapmkhjaa.col c w.heap.size 3) w' L (ss ++ [(s, rv)]) D := by
  have hold : ∀ b, b < w.heap.size → Ytdohkjpapmkhjaa.col c w.heap.size 3 b = c b := fun b hb => col_old hb
  have k := h.recol hold
  have ks : ∀ b, sv.ownBlock = some b → Ytdohkjpapmkhjaa.col c w.heap.size 3 b = 3 := fun b hb => k.s.2.1 b hb
  have kg : ∀ g, rv.ownBlock = some g → Ytdohkjpapmkhjaa.col c w.heap.size 3 g = 3 := fun g e => (hold g (hr.lt g e)).trans (hg g e)
  refine ⟨u.cell k.c0 (fun e => absurd ((ks pb e).symm.trans k.own) (by decide)), k.own, k.l.upd u (fun b e e2 => by have := ks b e2; omega), ⟨?_, fun g e => ?_, fun x hx => ?_, by simp; omega⟩, ownsRow_upd k.d u (fun b hb e => by have := ks b e; have := k.dc b hb; omega), k.dc, k.col,
    k.below.trans (u.below k.below.size (fun b hb e => by have := ks b e; have := k.col b hb; omega))⟩
  · rw [List.length_append, List.flatMap_append]; simpa using hs
  · rcases hn g e with e2 | e2
    · exact ks g e2
    · exact col_new e2
  · rcases List.mem_append.1 hx with hx | hx
    · exact ⟨(k.s.2.2.1 x hx).1.upd u (fun b e e2 => rows_apart (k.s.2.2.1 x hx).1.1 k.s.1 (by decide) b e e2), (k.s.2.2.1 x hx).2⟩
    · obtain rfl := List.mem_singleton.1 hx
      exact ⟨hr.upd u (fun b e e2 => rows_apart hr.1 k.s.1 (by decide) b e e2), kg⟩
end

set_option maxHeartbeats 8000000 in
set_option maxRecDepth 100000 in
theorem snapDead_any (a1 : Option Addr) (n1 cap1 : Nat) (a2 : Option Addr) (n2 cap2 : Nat) (a3 : Option Addr) (n3 cap3 : Nat) (w : World) (hs1 : Script2 w a1 n1) (hs2 : Script2 w a2 n2) (hs3 : Twos w a3 n3) (hn3 : n3 ≤ 9223372036854775807)
    (play : ∀ w1, Script2 w1 a1 n1 → Calls Try.prog 32 #[.slice a1 n1 cap1, .int .i64 30] w1 fun e w' => ∃ pb pl px c sv tv L S, e = .returned (.tuple #[.pointer (some ⟨pb, 0, none⟩), .bool true]) ∧ Pair w1 pb pl px c w' sv tv L L S ∧ L.length ≤ 1000 ∧ S.length ≤ 1000) :
    Calls Try.prog 10 #[.slice a1 n1 cap1, .slice a2 n2 cap2, .slice a3 n3 cap3] w fun e w' => e = .returned (.bool true) ∧ Below w.heap.size w w' := by
  have HS1 := Lib.hid hs1; clear hs1
  have HS2 := Lib.hid hs2; clear hs2
  have HS3 := Lib.hid hs3; clear hs3
  have HPL := Lib.hid play; clear play
  obtain ⟨i76, hi76, hz760, hz761, hz762⟩ := info_parts Try.info76
  obtain ⟨i66, hi66, hz660, hz661, hz662⟩ := info_parts Try.info66
  go_enter Try.func10, Try.ntmps10
  go_wp2_with fail
  refine (awake_ten w).mono ?_
  rintro e w1 ⟨rfl, b1⟩
  go_wp2_with fail
  refine (HPL.out w1 (HS1.out.keep b1)).mono ?_
  rintro e w2 ⟨pb, pl, px, c, sv, tv, L0, S, rfl, hP, hL1, hS1⟩
  have hB2 : Below w1.heap.size w1 w2 := hP.below
  have k0 : w2.cell? ⟨pb, 0, none⟩ = some (.pointer (some ⟨pl, 0, none⟩)) := cell_of_block hP.blk (i := 0) rfl
  have k2 : w2.cell? ⟨pb, 2, none⟩ = some sv := cell_of_block hP.blk (i := 2) rfl
  have hss := hP.s
  have hsl : ((S.map fun z => (z.1, z.2.1)).length) = S.length := by simp
  obtain ⟨sa, sc, hsv⟩ := ownsRow_slice hss.1
  rw [hsl] at hsv
  subst hsv
  go_wp2_with fail
  go_loopw [9, 39] (fun v i wr => ∃ (n : Nat) (ss : List (Snp × Value)), n ≤ S.length ∧ i = .int .i64 n ∧ ss.length ≤ n ∧ (∀ z ∈ ss, ∃ q ∈ S, z = (q.1, q.2.1)) ∧ wr.ownsRow w2.heap.size 66 4 v ss.length (ss.flatMap snapCells) ∧ Below w2.heap.size w2 wr) (fun _ i _ => S.length - (intOf i).toNat)
  case atStart => exact ⟨0, [], Nat.zero_le _, rfl, Nat.le_refl _, (fun z hz => by cases hz), World.ownsRow_nil _ _ _ _, Below.refl _ _⟩
  case round =>
    obtain ⟨n, ss, hn, rfl, hssn, hsub, hown, hB⟩ := hrel
    have hzB := hB.size
    have k0' := keeper hB k0
    by_cases hlt : n < S.length
    · obtain ⟨g, cp, hg, c0, c1, c2, ⟨ra, rc, c3, hrv⟩, hrun, _⟩ := (hss.same hB).at (i := n) (by rw [hsl]; exact hlt)
      simp only [hsl, Value.slice.injEq] at hg
      obtain ⟨rfl, _, rfl⟩ := hg
      have hsn : (S.map fun z => (z.1, z.2.1))[n]'(by rw [hsl]; exact hlt) = (S[n].1, S[n].2.1) := by simp
      rw [hsn] at c0 c1 c2 c3 hrv hrun
      have hmem : S[n] ∈ S := List.getElem_mem hlt
      obtain ⟨z, hz⟩ : ∃ z, z = S[n] := ⟨_, rfl⟩
      rw [← hz] at hmem
      simp only [← hz] at c0 c1 c2 c3 hrv hrun
      obtain ⟨s, rv, tvv⟩ := z
      simp only at c0 c1 c2 c3 hrv hrun
      subst hrv
      clear hz hsn
      go_wp2_with fail
      have hal : Below wr.heap.size wr (wr.alloc (.cells #[.int .u64 s.own, .int .u64 s.xmin, .int .u64 s.xmax, .slice ra s.run.length rc] 66)) := (Below.refl _ _).alloc (Nat.le_refl _) _
      have hst : ∀ m, Calls Try.prog 21 #[.pointer (some ⟨pl, 0, none⟩), .int .u64 s.own] ((wr.alloc (.cells #[.int .u64 s.own, .int .u64 s.xmin, .int .u64 s.xmax, .slice ra s.run.length rc] 66)).drewN m) fun e w' => e = .returned (.int .i64 (stt 1 L0 s.own)) ∧ ∃ k, w' = ((wr.alloc (.cells #[.int .u64 s.own, .int .u64 s.xmin, .int .u64 s.xmax, .slice ra s.run.length rc] 66)).drewN m).drewN k := fun m => state_at (((hP.l.same hB).same hal).drewN m) s.own
      have k0a := keeper hal k0'
      obtain ⟨st, hst0⟩ : ∃ st, st = stt 1 L0 s.own := ⟨_, rfl⟩
      rw [← hst0] at hst
      have HST := Lib.hid hst
      clear hst hst0
      by_cases h1 : st = 1
      · have hb : (((st : Nat) : Int) == 1) = true := by rw [h1]; rfl
        clear h1
        go_quiet ((go_at_call 21; exact Calls.quiet_of (HST.out _)))
        have hwn : ∀ b, u9.ownBlock = some b → w2.heap.size ≤ b := fun b hb => (World.ownsRow.lt hown b hb).1
        have HWN := Lib.hid hwn; clear hwn
        have hz660' : i66.zero = some (.agg #[.int .u64 0, .int .u64 0, .int .u64 0, .slice none 0 0]) := hz660
        have hownq := ownsRow_upd (S := fun _ => False) hown ((Upd.same hal).trans (Upd.of_drewN nq)) (fun _ _ x => x)
        go_wp2_with (at_builtin; refine wpList_append_mine rfl (.tmp 51) (.tmp 53) 61 rfl w2.heap.size 66 i66 (.agg #[.int .u64 0, .int .u64 0, .int .u64 0, .slice none 0 0]) 4 48 Try.underlying61 hi66 hz660' hz661 hz662 rfl (by decide) _ _ _ rfl (World.ownsRow.alloc hownq _) ⟨wr.heap.size + 1, 0, none⟩ 1 1 (snapCells (s, .slice ra s.run.length rc)) rfl rfl ?c1 ?c2 ?c3 ?c4 ?c5 ?_)
        case c1 => exact news_block (w := ((wr.alloc (.cells #[.int .u64 s.own, .int .u64 s.xmin, .int .u64 s.xmax, .slice ra s.run.length rc] 66)).drewN nq).alloc (.cells (snapCells (s, .slice ra s.run.length rc)).toArray 66)) (heap_new2 wr _ _)
        case c2 => intro u hu; simp [snapCells] at hu; rcases hu with rfl | rfl | rfl | rfl <;> rfl
        case c3 => unfold maxLen; omega
        case c4 => omega
        case c5 => first | omega | (simp; omega)
        intro v' w5 hown' hupd hnew
        have hb5 : Below w2.heap.size wr w5 := Upd.below (S := fun b => u9.ownBlock = some b) ((((Upd.same hal).trans (Upd.of_drewN nq)).alloc _).trans hupd) hzB (fun b hb e => by have := HWN.out _ e; omega)
        go_wp2_with fail
        go_roundw
        case rel => exact ⟨n + 1, ss ++ [(s, .slice ra s.run.length rc)], by omega, by go_num, by simp; omega, (fun z hz => by
          rcases List.mem_append.1 hz with hz | hz
          · exact hsub z hz
          · obtain rfl := List.mem_singleton.1 hz
            exact ⟨_, hmem, rfl⟩), by rw [List.length_append, List.flatMap_append]; simpa using hown', hB.trans hb5⟩
        case measure => simp [intOf]; omega
      · have hb : (((st : Nat) : Int) == 1) = false := by rw [beq_eq_false_iff_ne]; omega
        clear h1
        go_quiet ((go_at_call 21; exact Calls.quiet_of (HST.out _)))
        go_wp2_with fail
        go_roundw
        case rel => exact ⟨n + 1, ss, by omega, by go_num, by omega, hsub, ownsRow_upd (S := fun _ => False) hown ((Upd.same hal).trans (Upd.of_drewN nq)) (fun _ _ x => x), hB.trans ((hal.trans below_drewN).mono hB.size)⟩
        case measure => simp [intOf]; omega
    · have hnl : n = S.length := by omega
      subst hnl
      have hold : ∀ b, b < w2.heap.size → col c w2.heap.size 3 b = c b := fun b hb => col_old hb
      have hD0 : Dd w1 pb pl u9 (.slice none 0 0) (col c w2.heap.size 3) wr L0 ss [] :=
        ⟨k0', (hold _ (World.block_lt_of_cell? w2 _ k0)).trans hP.own, (hP.l.recol hold).same hB, ⟨ownsRow_base hown (Nat.zero_le _), fun g hg => col_new (World.ownsRow.lt hown g hg).1, fun z hz => by
          obtain ⟨q, hq, rfl⟩ := hsub z hz
          have h1 := (hss.recol hold).2.2.1 (q.1, q.2.1) (List.mem_map.2 ⟨q, hq, rfl⟩)
          exact ⟨h1.1.same hB, h1.2⟩, by omega⟩, World.ownsRow_nil _ _ _ _, (fun g hg => by simp [Value.ownBlock] at hg), col_zero hP.col hB2.size, hB2.trans (hB.mono hB2.size)⟩
      have hfit : ∀ z ∈ ss, Fits L0 z.1 := fun z hz => by
        obtain ⟨q, hq, rfl⟩ := hsub z hz
        exact hP.fits q hq
      have hssl : ss.length ≤ 1000 := by omega
      obtain ⟨c3, hc3⟩ : ∃ c3, c3 = col c w2.heap.size 3 := ⟨_, rfl⟩
      rw [← hc3] at hD0
      have HFIT := Lib.hid hfit
      clear hfit hc3 hold hown hB hzB hss k0 k2 hP hsub hssn hsl k0'
      obtain ⟨va, vc, hva⟩ := ownsRow_slice hD0.s.1
      subst hva
      have hca := horizon_at hD0.l hD0.s
      have k0 := hD0.c0
      obtain ⟨hz, hhz⟩ : ∃ hz, hz = least (1 + (L0.length : Int)) (ss.map (·.1.xmin)) := ⟨_, rfl⟩
      rw [← hhz] at hca
      have hhor : ∀ a b, deadB 1 L0 a b hz = true ↔ DeadP L0 (fun b => ∀ y ∈ ss.map (·.1.xmin), b < y) (a, b) := fun a b => by rw [hhz]; exact dead_horizon (fun _ => Iff.rfl) a b
      have HH := Lib.hid hhor
      have HCA := Lib.hid hca
      clear hhor hca hhz
      go_wp2_with fail
      refine HCA.out.mono ?_
      rintro e wh ⟨rfl, hBh⟩
      have hDh := hD0.same hBh
      have k0h := keeper hBh k0
      clear HCA k0
      go_wp2_with fail
      go_loopw [13, 64] (fun v i wr => ∃ (k : Nat) (D : List (Int × Int)), k ≤ n3 ∧ i = .int .i64 k ∧ D.length ≤ k ∧ D.length ≤ 20 ∧ Tups wh.heap.size wr v D ∧ (∀ t ∈ D, DeadP L0 (fun b => ∀ y ∈ ss.map (·.1.xmin), b < y) t) ∧ Below wh.heap.size wh wr) (fun _ i _ => n3 - (intOf i).toNat)
      case atStart => exact ⟨0, [], Nat.zero_le _, rfl, Nat.le_refl _, by decide, Tups.nil _ _, (fun t ht => by cases ht), Below.refl _ _⟩
      case round =>
        obtain ⟨k, D, hk, rfl, hDk, hD20, hdt, hdd, hBk⟩ := hrel
        have hzk := hBk.size
        have hBw2 := b1.trans (((hD0.below.trans (hBh.mono hD0.below.size)).trans (hBk.mono (hD0.below.trans (hBh.mono hD0.below.size)).size)).mono b1.size)
        by_cases hkl : k < n3
        · obtain ⟨b2, off2, x2, y2, ha2, hb2, s0, s1, hx0, hx1, hy0, hy1⟩ := HS3.out k hkl
          subst ha2
          have s0' := (hBw2.cell (p := ⟨b2, off2 + k * 2, none⟩) hb2).trans s0
          have s1' := (hBw2.cell (p := ⟨b2, off2 + k * 2 + 1, none⟩) hb2).trans s1
          have hxm : x2.tmod 40 = x2 % 40 := Int.tmod_eq_emod_of_nonneg hx0
          have hym : y2.tmod 40 = y2 % 40 := Int.tmod_eq_emod_of_nonneg hy0
          clear s0 s1 hBw2
          go_wp2_with fail
          refine (tuple_agg (x2 % 40) (y2 % 40) _).mono ?_
          rintro e wt ⟨rfl, bt0⟩
          have hBt : Below wr.heap.size wr wt := ((Below.refl wr.heap.size wr).alloc (Nat.le_refl _) (.cells #[.int .u64 x2, .int .u64 y2] 86)).trans (bt0.mono (by simp))
          clear bt0
          go_upto_region 19 with fail
          obtain ⟨tx, htx⟩ : ∃ tx, tx = x2 % 40 := ⟨_, rfl⟩
          obtain ⟨ty, hty⟩ : ∃ ty, ty = y2 % 40 := ⟨_, rfl⟩
          rw [← htx, ← hty]
          clear htx hty hxm hym s0' s1'
          obtain ⟨wp, hwp⟩ : ∃ wp, wp = wt.alloc (.cells #[.int .u64 0, .int .u64 tx, .int .u64 ty, .int .i64 0, .int .i64 0, .slice none 0 0] 76) := ⟨_, rfl⟩
          obtain ⟨bt, hbt⟩ : ∃ bt, bt = wt.heap.size := ⟨_, rfl⟩
          have hH : wp.heap[bt]? = some (.cells #[.int .u64 0, .int .u64 tx, .int .u64 ty, .int .i64 0, .int .i64 0, .slice none 0 0] 76 (0, 0)) := by rw [hwp, hbt]; exact heap_new1 wt _
          have hBp : Below wr.heap.size wr wp := by rw [hwp]; exact hBt.alloc hBt.size _
          rw [← hwp, ← hbt]
          clear hwp hbt hBt
          have m0 : wp.cell? ⟨bt, 0, none⟩ = some (.int .u64 0) := cell_of_block hH rfl
          have m1 : wp.cell? ⟨bt, 1, none⟩ = some (.int .u64 tx) := cell_of_block hH rfl
          have m2 : wp.cell? ⟨bt, 2, none⟩ = some (.int .u64 ty) := cell_of_block hH rfl
          have m3 : wp.cell? ⟨bt, 3, none⟩ = some (.int .i64 0) := cell_of_block hH rfl
          have m4 : wp.cell? ⟨bt, 4, none⟩ = some (.int .i64 0) := cell_of_block hH rfl
          have m5 : wp.cell? ⟨bt, 5, none⟩ = some (.slice none 0 0) := cell_of_block hH rfl
          have hBkp := hBk.trans (hBp.mono hBk.size)
          have kp := keeper hBkp k0h
          have hlp := hDh.l.same hBkp
          have hdt2 := hdt.same hBp
          clear hH
          by_cases h20 : k < 20
          · have hk20 : (k : Int) < 20 := by omega
            have hca := dead_at (w := wp.drew) (hlp.drewN 1) tx ty hz
            have hio := HH.out tx ty
            obtain ⟨vd, hvd⟩ : ∃ vd, vd = deadB 1 L0 tx ty hz := ⟨_, rfl⟩
            rw [← hvd] at hca hio
            have HIO := Lib.hid hio
            unfold tup at hca
            have HCA := Lib.hid hca
            clear hvd hio hca
            have hBd : Below wp.heap.size wp wp.drew := below_drewN (n := 1)
            go_region_held3 (fun z => z.cell? ⟨pb, 0, none⟩ = some (.pointer (some ⟨pl, 0, none⟩)) ∧ z.cell? ⟨bt, 0, none⟩ = some (.int .u64 0) ∧ z.cell? ⟨bt, 1, none⟩ = some (.int .u64 tx) ∧ z.cell? ⟨bt, 2, none⟩ = some (.int .u64 ty) ∧ z.cell? ⟨bt, 3, none⟩ = some (.int .i64 0) ∧ z.cell? ⟨bt, 4, none⟩ = some (.int .i64 0) ∧ z.cell? ⟨bt, 5, none⟩ = some (.slice none 0 0))
              (first | exact ⟨keeper hBv2 kp, keeper hBv2 m0, keeper hBv2 m1, keeper hBv2 m2, keeper hBv2 m3, keeper hBv2 m4, keeper hBv2 m5⟩ | exact ⟨keeper hBd kp, keeper hBd m0, keeper hBd m1, keeper hBd m2, keeper hBd m3, keeper hBd m4, keeper hBd m5⟩)
              (first | (go_at_call 38; (with_reducible refine HCA.out.mono ?_); rintro e wv ⟨rfl, hBv⟩; have hBv2 := below_drew hBv))
            have hdt3 := hdt2.same hBv2
            have hB3 := hBkp.trans (hBv2.mono hBkp.size)
            cases vd with
            | false =>
              go_wp2_with fail
              go_roundw
              case rel => exact ⟨k + 1, D, by omega, by go_num, by omega, hD20, hdt3, hdd, hB3⟩
              case measure => simp [intOf]; omega
            | true =>
              have n0 := keeper hBv2 m0
              have n1 := keeper hBv2 m1
              have n2 := keeper hBv2 m2
              have n3 := keeper hBv2 m3
              have n4 := keeper hBv2 m4
              have n5 := keeper hBv2 m5
              have hzv := hB3.size
              clear m0 m1 m2 m3 m4 m5
              go_wp2_with (at_builtin; refine wpList_append_mine rfl (.tmp 87) (.tmp 89) 72 rfl wh.heap.size 76 i76 (.agg #[.int .u64 0, .int .u64 0, .int .u64 0, .int .i64 0, .int .i64 0, .slice none 0 0]) 6 64 Try.underlying72 hi76 hz760 hz761 hz762 rfl (by decide) _ _ _ rfl (World.ownsRow.alloc hdt3 _) ⟨wv.heap.size, 0, none⟩ 1 1 (tcells (tx, ty)) rfl rfl ?c1 ?c2 ?c3 ?c4 ?c5 ?_)
              case c1 => first | exact fun j u h => h | exact news_block (heap_new1 wv _)
              case c2 => exact tcells_one _
              case c3 => unfold maxLen; omega
              case c4 => omega
              case c5 => first | omega | (simp; omega)
              intro v' w5 hown' hupd hnew
              have hb5 : Below wh.heap.size wv w5 := Upd.below (S := fun b => u13.ownBlock = some b) ((Upd.same ((Below.refl _ _).alloc (Nat.le_refl _) _)).trans hupd) hzv (fun b hb e => by have := (World.ownsRow.lt hdt _ e).1; omega)
              go_wp2_with fail
              go_roundw
              case rel => exact ⟨k + 1, D ++ [(tx, ty)], by omega, by go_num, by simp; omega, by simp; omega, Tups.snoc hown', (fun t ht => by
                rcases List.mem_append.1 ht with ht | ht
                · exact hdd t ht
                · obtain rfl := List.mem_singleton.1 ht
                  exact HIO.out.1 trivial), hB3.trans hb5⟩
              case measure => simp [intOf]; omega
          · have hk20 : ¬ (k : Int) < 20 := by omega
            have hk20b : decide ((k : Int) < 20) = false := by simp; omega
            go_quiet (fail)
            go_wp2_with fail
            go_roundw
            case rel => exact ⟨k + 1, D, by omega, by go_num, by omega, hD20, hdt2.same (below_drewN (n := nq)), hdd, hBkp.trans below_drewN⟩
            case measure => simp [intOf]; omega
        · have hke : ¬ (k : Int) < n3 := by omega
          have hBl := Blinds.start (_S := []) HFIT.out hdd
          have hDk' : Dd w1 pb pl (.slice va ss.length vc) u13 (col c3 wh.heap.size 4) wr L0 ss D := by
            have k1 := (hDh.recol (c' := col c3 wh.heap.size 4) (fun b hb => col_old hb)).same hBk
            exact ⟨k1.c0, k1.own, k1.l, k1.s, ownsRow_base hdt (Nat.zero_le _), fun g hg => col_new (World.ownsRow.lt hdt g hg).1, k1.col, k1.below⟩
          clear hDh hdt hdd hBk k0h hD0 hBh hBw2
          obtain ⟨da, dc, hdv⟩ := ownsRow_slice hDk'.d
          subst hdv
          have k0 := hDk'.c0
          go_upto_block 4 with fail
          go_cut [9] from 92 to 178 (fun v wx => ∃ (c : Nat → Nat) (L : List Nat) (ss : List (Snp × Value)), Dd w1 pb pl v (.slice da D.length dc) c wx L ss D ∧ Blinds L ss D ∧ ss.length ≤ 2000)
          case first =>
            go_wp2_with fail
            go_loopw [9, 94] (fun v i wr => ∃ (j : Nat) (c : Nat → Nat) (L : List Nat) (ss : List (Snp × Value)), j ≤ n2 ∧ i = .int .i64 j ∧ j ≤ 30 ∧ Dd w1 pb pl v (.slice da D.length dc) c wr L ss D ∧ Blinds L ss D ∧ L.length ≤ 1000 + j ∧ ss.length ≤ 1000 + j) (fun _ i _ => n2 - (intOf i).toNat)
            case atStart => exact ⟨0, _, _, _, Nat.zero_le _, rfl, by decide, hDk', hBl, by omega, by omega⟩
            case round =>
              clear hDk' hBl k0
              obtain ⟨j, c, L, ss, hj, rfl, hj30, hD, hBl, hL, hssl⟩ := hrel
              by_cases hlt : j < n2
              · obtain ⟨b, off, d, x, ha, hb, e0, e1, d0, d1, x0, x1⟩ := HS2.out j hlt
                subst ha
                have hBw := b1.trans (hD.below.mono b1.size)
                have e0' := (hBw.cell (p := ⟨b, off + j * 2, none⟩) hb).trans e0
                have e1' := (hBw.cell (p := ⟨b, off + j * 2 + 1, none⟩) hb).trans e1
                clear e0 e1 hBw
                have hDa : Dd w1 pb pl u9 (.slice da D.length dc) (col c wr.heap.size 7) (wr.alloc (.cells #[.int .u8 d, .int .u64 x] 70)) L ss D := (hD.recol (fun b hb => col_old hb)).same ((Below.refl _ _).alloc (Nat.le_refl _) _)
                have hcw : col c wr.heap.size 7 wr.heap.size = 7 := col_new (Nat.le_refl _)
                have hob := heap_new1 wr (.cells #[.int .u8 d, .int .u64 x] 70)
                have kl := hDa.c0
                by_cases h30 : j < 30
                · have hi30 : (j : Int) < 30 := by omega
                  have hd4 : d % 4 = 0 ∨ d % 4 = 1 ∨ (d % 4 ≠ 0 ∧ d % 4 ≠ 1) := by omega
                  rcases hd4 with h | h | ⟨h, h'⟩
                  · have q0 : (d % 4 == 0) = true := by rw [beq_iff_eq]; exact h
                    clear h
                    go_wp2_with fail
                    refine (dd_begin hDa (by omega)).mono ?_
                    rintro e wa ⟨rfl, ca, hDb⟩
                    have kb := hDb.c0
                    go_wp2_with fail
                    refine (dd_take hDb _).mono ?_
                    rintro e wt ⟨rv, rfl, hrun, ct, hgt, hDt⟩
                    obtain ⟨ra, rc, hrv⟩ := ownsRow_slice hrun.1
                    subst hrv
                    unfold Snp.val
                    obtain ⟨s, hs⟩ : ∃ s, s = Ytdohkjpapmkhjaa.take 1 (L ++ [1]) (1 + (L.length : Int)) := ⟨_, rfl⟩
                    have hBn := hBl.begin (1 + (L.length : Int)) (.slice ra s.run.length rc)
                    rw [← hs] at hBn hrun hgt
                    rw [← hs]
                    clear hs
                    have hz660' : i66.zero = some (.agg #[.int .u64 0, .int .u64 0, .int .u64 0, .slice none 0 0]) := hz660
                    have hown := hDt.s.1
                    have hown2 := World.ownsRow.alloc hown (.cells (snapCells (s, .slice ra s.run.length rc)).toArray 66)
                    go_wp2_with (at_builtin; refine wpList_append_mine rfl (.tmp 124) (.tmp 131) 61 rfl 0 66 i66 (.agg #[.int .u64 0, .int .u64 0, .int .u64 0, .slice none 0 0]) 4 48 Try.underlying61 hi66 hz660' hz661 hz662 rfl (by decide) _ _ _ rfl hown2 ⟨wt.heap.size, 0, none⟩ 1 1 (snapCells (s, .slice ra s.run.length rc)) rfl rfl ?c1 ?c2 ?c3 ?c4 ?c5 ?_)
                    case c1 => first | exact fun j u h => h | exact news_block (heap_new1 wt _)
                    case c2 => intro u hu; simp [snapCells] at hu; rcases hu with rfl | rfl | rfl | rfl <;> rfl
                    case c3 => unfold maxLen; omega
                    case c4 => omega
                    case c5 => omega
                    intro v' w5 hown' hupd hnew
                    have hDu := hDt.same ((Below.refl _ _).alloc (Nat.le_refl _) (.cells (snapCells (s, .slice ra s.run.length rc)).toArray 66))
                    have hDl := hDu.look (hrun.alloc (.cells (snapCells (s, .slice ra s.run.length rc)).toArray 66)) hgt hown' hupd (fun g hg => by have := hnew g hg; simpa using this) (by omega)
                    go_wp2_with fail
                    go_roundw
                    case rel => exact ⟨j + 1, _, _, _, by omega, by go_num, by omega, hDl, hBn, by simp; omega, by simp; omega⟩
                    case measure => simp [intOf]; omega
                  · have q0 : (d % 4 == 0) = false := by rw [beq_eq_false_iff_ne]; omega
                    have q1 : (d % 4 == 1) = true := by rw [beq_iff_eq]; exact h
                    clear h
                    go_wp2_with fail
                    have hS0 : (wr.alloc (.cells #[.int .u8 d, .int .u64 x] 70)).drew.cell? ⟨pb, 0, none⟩ = some (.pointer (some ⟨pl, 0, none⟩)) ∧ (wr.alloc (.cells #[.int .u8 d, .int .u64 x] 70)).drew.cell? ⟨wr.heap.size, 1, none⟩ = some (.int .u64 x) := ⟨kl, cell_of_block hob rfl⟩
                    have hSd : Dd w1 pb pl u9 (.slice da D.length dc) (col c wr.heap.size 7) (wr.alloc (.cells #[.int .u8 d, .int .u64 x] 70)).drew L ss D := hDa.same (below_drewN (n := 1))
                    go_region_held3 (fun z => z.cell? ⟨pb, 0, none⟩ = some (.pointer (some ⟨pl, 0, none⟩)) ∧ z.cell? ⟨wr.heap.size, 1, none⟩ = some (.int .u64 x))
                      (first | exact ⟨hSb.c0, hu.cell hS0.2 (by simp only [hcw]; decide)⟩ | exact hS0)
                      (first | (go_at_call 25; (with_reducible refine (dd_abort hSd _).mono ?_); rintro e wa ⟨rfl, hSb, hu⟩))
                    go_wp2_with fail
                    go_roundw
                    case rel => exact ⟨j + 1, _, _, _, by omega, by go_num, by omega, hSb, hBl.ended _ _, by rw [length_ended]; omega, by omega⟩
                    case measure => simp [intOf]; omega
                  · have q0 : (d % 4 == 0) = false := by rw [beq_eq_false_iff_ne]; omega
                    have q1 : (d % 4 == 1) = false := by rw [beq_eq_false_iff_ne]; omega
                    clear h h'
                    go_wp2_with fail
                    have hS0 : (wr.alloc (.cells #[.int .u8 d, .int .u64 x] 70)).drew.cell? ⟨pb, 0, none⟩ = some (.pointer (some ⟨pl, 0, none⟩)) ∧ (wr.alloc (.cells #[.int .u8 d, .int .u64 x] 70)).drew.cell? ⟨wr.heap.size, 1, none⟩ = some (.int .u64 x) := ⟨kl, cell_of_block hob rfl⟩
                    have hSd : Dd w1 pb pl u9 (.slice da D.length dc) (col c wr.heap.size 7) (wr.alloc (.cells #[.int .u8 d, .int .u64 x] 70)).drew L ss D := hDa.same (below_drewN (n := 1))
                    go_region_held3 (fun z => z.cell? ⟨pb, 0, none⟩ = some (.pointer (some ⟨pl, 0, none⟩)) ∧ z.cell? ⟨wr.heap.size, 1, none⟩ = some (.int .u64 x))
                      (first | exact ⟨hSb.c0, hu.cell hS0.2 (by simp only [hcw]; decide)⟩ | exact hS0)
                      (first | (go_at_call 23; (with_reducible refine (dd_commit hSd _).mono ?_); rintro e wa ⟨rfl, hSb, hu⟩))
                    go_wp2_with fail
                    go_roundw
                    case rel => exact ⟨j + 1, _, _, _, by omega, by go_num, by omega, hSb, hBl.ended _ _, by rw [length_ended]; omega, by omega⟩
                    case measure => simp [intOf]; omega
                · have hi30 : ¬ (j : Int) < 30 := by omega
                  go_wp2_with fail
                  go_meet
                  exact ⟨_, _, _, hDa, hBl, by omega⟩
              · have hjl : ¬ (j : Int) < n2 := by omega
                go_wp2_with fail
                go_meet
                exact ⟨_, _, _, hD, hBl, by omega⟩
          case rest =>
            clear hDk' hBl k0
            obtain ⟨c, L, ss2, hD, hBl, hss2⟩ := hcut
            obtain ⟨la, lc, hlv⟩ := ownsRow_slice hD.s.1
            subst hlv
            go_wp2_with fail
            go_loopw [146] (fun i wv => ∃ k : Nat, k ≤ ss2.length ∧ i = .int .i64 k ∧ Below wc.heap.size wc wv) (fun i _ => ss2.length - (intOf i).toNat)
            case atStart => exact ⟨0, Nat.zero_le _, rfl, Below.refl _ _⟩
            case round =>
              obtain ⟨k, hk, rfl, hBk⟩ := hrel
              obtain ⟨wy, hwy⟩ : ∃ wy, wy = wr := ⟨_, rfl⟩
              subst hwy
              have hDy := hD.same hBk
              by_cases hkl : k < ss2.length
              · obtain ⟨g, cp, hg, c0, c1, c2, ⟨ra, rc, c3, hrv⟩, hrun, _⟩ := hDy.s.at hkl
                simp only [Value.slice.injEq] at hg
                obtain ⟨rfl, _, rfl⟩ := hg
                have hbl := hBl.blind _ (List.getElem_mem hkl)
                obtain ⟨z, hz⟩ : ∃ z, z = ss2[k] := ⟨_, rfl⟩
                simp only [← hz] at c0 c1 c2 c3 hrv hrun hbl
                clear hz
                obtain ⟨s, rv⟩ := z
                simp only at c0 c1 c2 c3 hrv hrun hbl
                subst hrv
                have HBL := Lib.hid hbl; clear hbl
                go_wp2_with fail
                obtain ⟨wo, hwo⟩ : ∃ wo, wo = wy.alloc (.cells #[.int .u64 s.own, .int .u64 s.xmin, .int .u64 s.xmax, .slice ra s.run.length rc] 66) := ⟨_, rfl⟩
                have q0 : wo.cell? ⟨wy.heap.size, 0, none⟩ = some (.int .u64 s.own) := by rw [hwo]; exact cell_of_block (heap_new1 wy _) rfl
                have q1 : wo.cell? ⟨wy.heap.size, 1, none⟩ = some (.int .u64 s.xmin) := by rw [hwo]; exact cell_of_block (heap_new1 wy _) rfl
                have q2 : wo.cell? ⟨wy.heap.size, 2, none⟩ = some (.int .u64 s.xmax) := by rw [hwo]; exact cell_of_block (heap_new1 wy _) rfl
                have q3 : wo.cell? ⟨wy.heap.size, 3, none⟩ = some (.slice ra s.run.length rc) := by rw [hwo]; exact cell_of_block (heap_new1 wy _) rfl
                have hal : Below wy.heap.size wy wo := by rw [hwo]; exact (Below.refl _ _).alloc (Nat.le_refl _) _
                have hDo := hDy.same hal
                have hro := hrun.same hal
                have hBko := hBk.trans (hal.mono hBk.size)
                rw [← hwo]
                have hrl := hro.2
                clear hal hwo hDy hrun c0 c1 c2 c3 hBk
                go_loopw [152] (fun i wv => ∃ q : Nat, q ≤ D.length ∧ i = .int .i64 q ∧ Below wo.heap.size wo wv) (fun i _ => D.length - (intOf i).toNat)
                case atStart => exact ⟨0, Nat.zero_le _, rfl, Below.refl _ _⟩
                case round =>
                  obtain ⟨q, hq, rfl, hBi⟩ := hrel
                  by_cases hql : q < D.length
                  · have hDq := hDo.same hBi
                    obtain ⟨gt, ct, hgt, _, _, e0, e1, e2, e3, e4, e5⟩ := (show Tups 0 wr (.slice da D.length dc) D from hDq.d).at hql
                    simp only [Value.slice.injEq] at hgt
                    obtain ⟨rfl, _, rfl⟩ := hgt
                    have hbt := HBL.out _ (List.getElem_mem hql)
                    obtain ⟨t, ht⟩ : ∃ t, t = D[q] := ⟨_, rfl⟩
                    rw [← ht] at e1 e2 hbt
                    clear ht
                    have HBT := Lib.hid hbt; clear hbt
                    go_wp2_with fail
                    obtain ⟨wp, hwp⟩ : ∃ wp, wp = wr.alloc (.cells #[.int .u64 0, .int .u64 t.1, .int .u64 t.2, .int .i64 0, .int .i64 0, .slice none 0 0] 76) := ⟨_, rfl⟩
                    obtain ⟨bt, hbt⟩ : ∃ bt, bt = wr.heap.size := ⟨_, rfl⟩
                    have hH : wp.heap[bt]? = some (.cells #[.int .u64 0, .int .u64 t.1, .int .u64 t.2, .int .i64 0, .int .i64 0, .slice none 0 0] 76 (0, 0)) := by rw [hwp, hbt]; exact heap_new1 wr _
                    have hBp : Below wr.heap.size wr wp := by rw [hwp]; exact (Below.refl _ _).alloc (Nat.le_refl _) _
                    rw [← hwp, ← hbt]
                    clear hwp hbt e0 e1 e2 e3 e4 e5
                    have t0 : wp.cell? ⟨bt, 0, none⟩ = some (.int .u64 0) := cell_of_block hH rfl
                    have t1 : wp.cell? ⟨bt, 1, none⟩ = some (.int .u64 t.1) := cell_of_block hH rfl
                    have t2 : wp.cell? ⟨bt, 2, none⟩ = some (.int .u64 t.2) := cell_of_block hH rfl
                    have t3 : wp.cell? ⟨bt, 3, none⟩ = some (.int .i64 0) := cell_of_block hH rfl
                    have t4 : wp.cell? ⟨bt, 4, none⟩ = some (.int .i64 0) := cell_of_block hH rfl
                    have t5 : wp.cell? ⟨bt, 5, none⟩ = some (.slice none 0 0) := cell_of_block hH rfl
                    have hBop := hBi.trans (hBp.mono hBi.size)
                    have p0 := keeper hBop hDo.c0
                    have s0 := keeper hBop q0
                    have s1 := keeper hBop q1
                    have s2 := keeper hBop q2
                    have s3 := keeper hBop q3
                    clear hH
                    by_cases ha : t.1 = s.own
                    · have hb1 : (t.1 != s.own) = false := by rw [ha]; simp
                      clear ha
                      go_quiet (fail)
                      go_wp2_with fail
                      go_roundw
                      case rel => exact ⟨q + 1, by omega, by go_num, hBop.trans below_drewN⟩
                      case measure => simp [intOf]; omega
                    · have hb1 : (t.1 != s.own) = true := by rw [bne_iff_ne]; exact ha
                      by_cases hb : t.2 = s.own
                      · have hb2 : (t.2 != s.own) = false := by rw [hb]; simp
                        clear ha hb
                        go_quiet (fail)
                        go_wp2_with fail
                        go_roundw
                        case rel => exact ⟨q + 1, by omega, by go_num, hBop.trans below_drewN⟩
                        case measure => simp [intOf]; omega
                      · have hb2 : (t.2 != s.own) = true := by rw [bne_iff_ne]; exact hb
                        have hvv := HBT.out.unseen ha hb
                        have hca := vis_at (w := wp.drew) ((hDo.l.same hBop).drewN 1) ((hro.same hBop).drewN 1) t.1 t.2
                        rw [hvv] at hca
                        unfold Snp.val tup at hca
                        have HCA := Lib.hid hca
                        clear hca hvv ha hb
                        have hBd : Below wp.heap.size wp wp.drew := below_drewN (n := 1)
                        go_region_held3 (fun z => z.cell? ⟨pb, 0, none⟩ = some (.pointer (some ⟨pl, 0, none⟩)) ∧ z.cell? ⟨wy.heap.size, 0, none⟩ = some (.int .u64 s.own) ∧ z.cell? ⟨wy.heap.size, 1, none⟩ = some (.int .u64 s.xmin) ∧ z.cell? ⟨wy.heap.size, 2, none⟩ = some (.int .u64 s.xmax) ∧ z.cell? ⟨wy.heap.size, 3, none⟩ = some (.slice ra s.run.length rc) ∧ z.cell? ⟨bt, 0, none⟩ = some (.int .u64 0) ∧ z.cell? ⟨bt, 1, none⟩ = some (.int .u64 t.1) ∧ z.cell? ⟨bt, 2, none⟩ = some (.int .u64 t.2) ∧ z.cell? ⟨bt, 3, none⟩ = some (.int .i64 0) ∧ z.cell? ⟨bt, 4, none⟩ = some (.int .i64 0) ∧ z.cell? ⟨bt, 5, none⟩ = some (.slice none 0 0))
                          (first | exact ⟨keeper hBv2 p0, keeper hBv2 s0, keeper hBv2 s1, keeper hBv2 s2, keeper hBv2 s3, keeper hBv2 t0, keeper hBv2 t1, keeper hBv2 t2, keeper hBv2 t3, keeper hBv2 t4, keeper hBv2 t5⟩ | exact ⟨keeper hBd p0, keeper hBd s0, keeper hBd s1, keeper hBd s2, keeper hBd s3, keeper hBd t0, keeper hBd t1, keeper hBd t2, keeper hBd t3, keeper hBd t4, keeper hBd t5⟩)
                          (first | (go_at_call 35; (with_reducible refine HCA.out.mono ?_); rintro e wv ⟨rfl, hBv⟩; have hBv2 := below_drew hBv))
                        go_wp2_with fail
                        go_roundw
                        case rel => exact ⟨q + 1, by omega, by go_num, hBop.trans (hBv2.mono hBop.size)⟩
                        case measure => simp [intOf]; omega
                  · have hqe : ¬ (q : Int) < D.length := by omega
                    go_wp2_with fail
                    go_roundw
                    case rel => exact ⟨k + 1, by omega, by go_num, hBko.trans (hBi.mono hBko.size)⟩
                    case measure => simp [intOf]; omega
              · have hke : ¬ (k : Int) < ss2.length := by omega
                go_wp2_with fail
                go_ret
                exact ⟨rfl, b1.trans (hDy.below.mono b1.size)⟩
end Go.Proofs.Ytdohkjpapmkhjaa
