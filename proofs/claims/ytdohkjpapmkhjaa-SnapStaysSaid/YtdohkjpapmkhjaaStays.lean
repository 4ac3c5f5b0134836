/-
  SnapStays, the walk: what each snapshot sees, kept in lists of bools; what happens behind; what they see then.
-/
import Derived.Test.YtdohkjpapmkhjaaPlay
import Derived.Test.YtdohkjpapmkhjaaAwakeTen
import Derived.Test.YtdohkjpapmkhjaaStep
namespace Go.Proofs.Ytdohkjpapmkhjaa
open Go.RowKit

/-! ### the plain law -/
theorem Fits.stay {L L' : List Nat} {s : Snp} (h : Fits L s) (hs : ∀ y, y < s.xmax → stt 1 L y ≠ 1 → (stt 1 L' y = stt 1 L y)) {x : Int} (hx : x ≠ s.own) : sees 1 L' s x = sees 1 L s x := by
  have hb : (x == s.own) = false := by rw [beq_eq_false_iff_ne]; exact hx
  unfold sees
  rw [hb, Bool.false_or, Bool.false_or]
  by_cases h1 : x < s.xmax
  · by_cases h2 : x ∈ s.run
    · have e : s.run.contains x = true := by simpa using h2
      rw [e]; simp
    · rw [hs x h1 (h.past x h1 h2 hx)]
  · have e : decide (x < s.xmax) = false := by simpa using h1
    rw [e]; simp
theorem Fits.stay_ended {L : List Nat} {s : Snp} (h : Fits L s) (y : Int) (q : Nat) {x : Int} (hx : x ≠ s.own) : sees 1 (Ytdohkjpapmkhjaa.ended 1 L y q) s x = sees 1 L s x :=
  h.stay (fun z _ h2 => by rw [stt_ended, if_neg]; rintro ⟨rfl, h3⟩; exact h2 h3) hx
theorem Fits.stay_begin {L : List Nat} {s : Snp} (h : Fits L s) {x : Int} (hx : x ≠ s.own) : sees 1 (L ++ [1]) s x = sees 1 L s x :=
  h.stay (fun z h1 _ => by rw [stt_snoc, if_neg]; have := h.max; omega) hx

/-- What was seen is seen. -/
structure Steady (L0 L : List Nat) (S : List Snp) : Prop where
  fits : ∀ s ∈ S, Fits L s
  same : ∀ s ∈ S, ∀ x, x ≠ s.own → sees 1 L s x = sees 1 L0 s x
theorem Steady.ended {L0 L : List Nat} {S : List Snp} (h : Steady L0 L S) (y : Int) {q : Nat} (hq : q ≠ 1) : Steady L0 (Ytdohkjpapmkhjaa.ended 1 L y q) S :=
  ⟨fun s hs => (h.fits s hs).ended y hq, fun s hs x hx => ((h.fits s hs).stay_ended y q hx).trans (h.same s hs x hx)⟩
theorem Steady.begin {L0 L : List Nat} {S : List Snp} (h : Steady L0 L S) : Steady L0 (L ++ [1]) S :=
  ⟨fun s hs => (h.fits s hs).begin, fun s hs x hx => ((h.fits s hs).stay_begin hx).trans (h.same s hs x hx)⟩

/-! ### lists of lists of bools -/
def bools (l : List Bool) : List Value := l.map Value.bool
/-- wv holds the lists, all in blocks from B on. -/
def Was (B : Nat) (w : World) (wv : Value) (rows : List (Value × List Bool)) : Prop :=
  w.ownsRow B 67 1 wv rows.length (rows.map (·.1)) ∧ ∀ x ∈ rows, w.ownsRow B 4 1 x.1 x.2.length (bools x.2)

section
variable {B : Nat} {w w' : World} {wv : Value} {rows : List (Value × List Bool)}
theorem Was.upd {S : Nat → Prop} (h : Was B w wv rows) (u : Upd S w w') (hs : ∀ b, B ≤ b → ¬ S b) : Was B w' wv rows :=
  ⟨ownsRow_upd h.1 u (fun b hb => hs b (World.ownsRow.lt h.1 b hb).1), fun x hx => ownsRow_upd (h.2 x hx) u (fun b hb => hs b (World.ownsRow.lt (h.2 x hx) b hb).1)⟩
theorem Script2.same {w w' : World} {a : Option Addr} {len : Nat} (h : Script2 w a len) (u : Below w.heap.size w w') : Script2 w' a len := fun i hi => by
  obtain ⟨b, off, d, x, ha, hb, c0, c1, r⟩ := h i hi
  exact ⟨b, off, d, x, ha, Nat.lt_of_lt_of_le hb u.size, (u.cell (p := ⟨b, off + i * 2, none⟩) hb).trans c0, (u.cell (p := ⟨b, off + i * 2 + 1, none⟩) hb).trans c1, r⟩
theorem Was.same (h : Was B w wv rows) (u : Below w.heap.size w w') : Was B w' wv rows := h.upd (S := fun _ => False) (Upd.same u) (fun _ _ x => x)
theorem Was.nil (B : Nat) (w : World) : Was B w (.slice none 0 0) [] := ⟨World.ownsRow_nil _ _ _ _, fun x hx => by cases hx⟩
theorem Was.at (h : Was B w wv rows) {i : Nat} (hi : i < rows.length) {j : Nat} {u : Bool} (hj : rows[i].2[j]? = some u) :
    ∃ g cap g2 cap2, wv = .slice (some ⟨g, 0, none⟩) rows.length cap ∧ w.cell? ⟨g, i, none⟩ = some (.slice (some ⟨g2, 0, none⟩) rows[i].2.length cap2) ∧ w.cell? ⟨g2, j, none⟩ = some (.bool u) := by
  obtain ⟨h1, h2⟩ := h
  have e1 : (rows.map (·.1))[i]? = some rows[i].1 := by simp [hi]
  obtain ⟨g, cap, hg, c1, _⟩ := ownsRow_cell1 h1 e1
  have h3 := h2 _ (List.getElem_mem hi)
  have e2 : (bools rows[i].2)[j]? = some (.bool u) := by simp [bools, hj]
  obtain ⟨g2, cap2, hg2, c2, _⟩ := ownsRow_cell1 h3 e2
  exact ⟨g, cap, g2, cap2, hg, by rw [← hg2]; exact c1, c2⟩
end

/-- What a snapshot sees of the first n. -/
def seen (L : List Nat) (s : Snp) (n : Nat) : List Bool := (List.range n).map fun (j : Nat) => sees 1 L s (j : Int)
theorem seen_succ (L : List Nat) (s : Snp) (n : Nat) : seen L s (n + 1) = seen L s n ++ [sees 1 L s (n : Int)] := by
  unfold seen; rw [List.range_succ, List.map_append]; rfl
theorem length_seen (L : List Nat) (s : Snp) (n : Nat) : (seen L s n).length = n := by simp [seen]
theorem getElem?_seen (L : List Nat) (s : Snp) (n : Nat) {j : Nat} (h : j < n) : (seen L s n)[j]? = some (sees 1 L s (j : Int)) := by simp [seen, h]

theorem Try.info4 : (Try.prog.info? 4).map (fun i => (i.zero, i.size, i.bytes)) = some (some (.bool false), 1, 1) := by kernel_rfl
theorem Try.info67 : (Try.prog.info? 67).map (fun i => (i.zero, i.size, i.bytes)) = some (some (.slice none 0 0), 1, 24) := by kernel_rfl

/-- Lists in blocks from B on, below E. -/
structure WasIn (B E : Nat) (w : World) (wv : Value) (rows : List (Value × List Bool)) : Prop where
  was : Was B w wv rows
  top : ∀ g, wv.ownBlock = some g → g < E
  tops : ∀ x ∈ rows, ∀ g, x.1.ownBlock = some g → g < E
theorem WasIn.upd {B E : Nat} {w w' : World} {wv : Value} {rows : List (Value × List Bool)} {S : Nat → Prop} (h : WasIn B E w wv rows) (u : Upd S w w') (hs : ∀ b, B ≤ b → b < E → ¬ S b) : WasIn B E w' wv rows :=
  ⟨⟨ownsRow_upd h.was.1 u (fun b hb => hs b (World.ownsRow.lt h.was.1 b hb).1 (h.top b hb)), fun x hx => ownsRow_upd (h.was.2 x hx) u (fun b hb => hs b (World.ownsRow.lt (h.was.2 x hx) b hb).1 (h.tops x hx b hb))⟩, h.top, h.tops⟩
theorem Was.in {B : Nat} {w : World} {wv : Value} {rows : List (Value × List Bool)} (h : Was B w wv rows) : WasIn B w.heap.size w wv rows :=
  ⟨h, fun g hg => (World.ownsRow.lt h.1 g hg).2, fun x hx g hg => (World.ownsRow.lt (h.2 x hx) g hg).2⟩

/-- The pair's log and snapshots, and what each snapshot saw. -/
structure Stay (w0 : World) (pb pl B E : Nat) (sv wv : Value) (ss : List (Snp × Value)) (rows : List (Value × List Bool)) (c : Nat → Nat) (w : World) (L : List Nat) : Prop where
  c0 : w.cell? ⟨pb, 0, none⟩ = some (.pointer (some ⟨pl, 0, none⟩))
  c2 : w.cell? ⟨pb, 2, none⟩ = some sv
  own : c pb = 5
  l : LogAt c 1 w pl 1 L
  s : Snaps c 3 w sv ss
  was : WasIn B E w wv rows
  new : ∀ b, B ≤ b → b < E → c b = 6
  big : E ≤ w.heap.size
  col : ∀ b, b < w0.heap.size → c b = 0
  below : Below w0.heap.size w0 w

section
variable {w0 : World} {pb pl B E : Nat} {sv wv : Value} {ss : List (Snp × Value)} {rows : List (Value × List Bool)} {c : Nat → Nat} {w w' : World} {L : List Nat}
theorem Stay.same (h : Stay w0 pb pl B E sv wv ss rows c w L) (u : Below w.heap.size w w') : Stay w0 pb pl B E sv wv ss rows c w' L :=
  ⟨(Upd.same (S := fun _ => False) u).cell h.c0 id, (Upd.same (S := fun _ => False) u).cell h.c2 id, h.own, h.l.same u, h.s.same u, h.was.upd (S := fun _ => False) (Upd.same u) (fun _ _ _ x => x), h.new, Nat.le_trans h.big u.size, h.col, h.below.trans (u.mono h.below.size)⟩
theorem Stay.alloc (h : Stay w0 pb pl B E sv wv ss rows c w L) (o : Obj) : Stay w0 pb pl B E sv wv ss rows c (w.alloc o) L := h.same ((Below.refl _ _).alloc (Nat.le_refl _) o)
theorem Stay.step (h : Stay w0 pb pl B E sv wv ss rows c w L) {L' : List Nat} (hl : LogAt c 1 w' pl 1 L') (u : Upd (fun b => c b = 1) w w') : Stay w0 pb pl B E sv wv ss rows c w' L' :=
  ⟨u.cell h.c0 (by have := h.own; simp only; omega), u.cell h.c2 (by have := h.own; simp only; omega), h.own, hl, h.s.upd u (fun b e e' => by omega), h.was.upd u (fun b h1 h2 e => by have := h.new b h1 h2; omega), h.new, Nat.le_trans h.big u.size, h.col,
    h.below.trans (u.below h.below.size (fun b hb e => by have := h.col b hb; omega))⟩
theorem Stay.recol (h : Stay w0 pb pl B E sv wv ss rows c w L) {c' : Nat → Nat} (hold : ∀ b, b < w.heap.size → c' b = c b) : Stay w0 pb pl B E sv wv ss rows c' w L :=
  ⟨h.c0, h.c2, (hold _ (World.block_lt_of_cell? w _ h.c0)).trans h.own, h.l.recol hold, h.s.recol hold, h.was, fun b h5 h6 => (hold b (Nat.lt_of_lt_of_le h6 h.big)).trans (h.new b h5 h6), h.big, fun b hb => (hold b (Nat.lt_of_lt_of_le hb h.below.size)).trans (h.col b hb), h.below⟩
theorem Stay.box (h : Stay w0 pb pl B E sv wv ss rows c w L) (o : Obj) : Stay w0 pb pl B E sv wv ss rows (Ytdohkjpapmkhjaa.col c w.heap.size 7) (w.alloc o) L := (h.recol (fun _b hb => col_old hb)).alloc o
theorem Stay.drew (h : Stay w0 pb pl B E sv wv ss rows c w L) : Stay w0 pb pl B E sv wv ss rows c w.drew L := h.same (below_drewN (n := 1))
theorem stay_commit (h : Stay w0 pb pl B E sv wv ss rows c w L) (x : Int) : Calls Try.prog 23 #[.pointer (some ⟨pl, 0, none⟩), .int .u64 x] w fun e w' => e = .returned (.int .i64 (endErr 1 L x)) ∧ Stay w0 pb pl B E sv wv ss rows c w' (ended 1 L x 2) ∧ Upd (fun b => c b = 1) w w' := by
  refine (commit_at h.l x).mono fun e w' ⟨h1, h2, h3⟩ => ⟨h1, h.step h2 h3, h3⟩
theorem stay_abort (h : Stay w0 pb pl B E sv wv ss rows c w L) (x : Int) : Calls Try.prog 25 #[.pointer (some ⟨pl, 0, none⟩), .int .u64 x] w fun e w' => e = .returned (.int .i64 (endErr 1 L x)) ∧ Stay w0 pb pl B E sv wv ss rows c w' (ended 1 L x 3) ∧ Upd (fun b => c b = 1) w w' := by
  refine (abort_at h.l x).mono fun e w' ⟨h1, h2, h3⟩ => ⟨h1, h.step h2 h3, h3⟩
theorem stay_begin (h : Stay w0 pb pl B E sv wv ss rows c w L) (hf : 1 + (L.length : Int) ≤ 1099511627776) : Calls Try.prog 18 #[.pointer (some ⟨pl, 0, none⟩)] w fun e w' => e = .returned (.tuple #[.int .u64 (1 + L.length), .int .i64 0]) ∧ ∃ c', Stay w0 pb pl B E sv wv ss rows c' w' (L ++ [1]) := by
  refine (begin_at h.l hf).mono fun e w' ⟨h1, h2, h3⟩ => ?_
  have hold : ∀ b, b < w.heap.size → col c w.heap.size 1 b = c b := fun b hb => col_old hb
  have hpb := World.block_lt_of_cell? w _ h.c0
  have h4 : Stay w0 pb pl B E sv wv ss rows (col c w.heap.size 1) w L :=
    ⟨h.c0, h.c2, (hold _ hpb).trans h.own, h.l.recol hold, h.s.recol hold, h.was, fun b h5 h6 => (hold b (Nat.lt_of_lt_of_le h6 h.big)).trans (h.new b h5 h6), h.big, col_zero h.col h.below.size, h.below⟩
  exact ⟨h1, _, h4.step h2 (h3.mono (fun b hb e => (hold b hb).trans e))⟩
end

set_option maxHeartbeats 4000000 in
set_option maxRecDepth 100000 in
theorem snapStays_any (a1 : Option Addr) (n1 cap1 : Nat) (a2 : Option Addr) (n2 cap2 : Nat) (w : World) (_hn1 : n1 ≤ 9223372036854775807) (_hn2 : n2 ≤ 9223372036854775807) (hs1 : Script2 w a1 n1) (hs2 : Script2 w a2 n2)
    (play : ∀ w1, Script2 w1 a1 n1 → Calls Try.prog 32 #[.slice a1 n1 cap1, .int .i64 30] w1 fun e w' => ∃ pb pl px c sv tv L S, e = .returned (.tuple #[.pointer (some ⟨pb, 0, none⟩), .bool true]) ∧ Pair w1 pb pl px c w' sv tv L L S ∧ L.length ≤ 1000 ∧ S.length ≤ 1000) :
    Calls Try.prog 7 #[.slice a1 n1 cap1, .slice a2 n2 cap2] w fun e w' => e = .returned (.bool true) ∧ Below w.heap.size w w' := by
  have HS1 := Lib.hid hs1; clear hs1
  have HS2 := Lib.hid hs2; clear hs2
  have HPL := Lib.hid play; clear play
  obtain ⟨i4, hi4, hz40, hz41, hz42⟩ := info_parts Try.info4
  obtain ⟨i67, hi67, hz670, hz671, hz672⟩ := info_parts Try.info67
  go_enter Try.func7, Try.ntmps7
  go_wp2_with fail
  refine (awake_ten w).mono ?_
  rintro e w1 ⟨rfl, b1⟩
  go_wp2_with fail
  refine (HPL.out w1 (HS1.out.same b1)).mono ?_
  rintro e w2 ⟨pb, pl, px, c, sv, tv, L0, S, rfl, hP, hL1, hS1⟩
  have hB2 : Below w1.heap.size w1 w2 := hP.below
  have k0 : w2.cell? ⟨pb, 0, none⟩ = some (.pointer (some ⟨pl, 0, none⟩)) := cell_of_block hP.blk (i := 0) rfl
  have k2 := cell_of_block hP.blk (i := 2) rfl
  have hss := hP.s
  have hsl : ((S.map fun z => (z.1, z.2.1)).length) = S.length := by simp
  obtain ⟨sa, sc, hsv⟩ := ownsRow_slice hss.1
  rw [hsl] at hsv
  subst hsv
  go_wp2_with fail
  go_loopw [7, 31] (fun v i wr => ∃ (n : Nat) (rows : List (Value × List Bool)), n ≤ S.length ∧ i = .int .i64 n ∧ rows.map (·.2) = (S.take n).map (fun z => seen L0 z.1 60) ∧ Was w2.heap.size wr v rows ∧ Below w2.heap.size w2 wr) (fun _ i _ => S.length - (intOf i).toNat)
  case atStart => exact ⟨0, [], Nat.zero_le _, rfl, rfl, Was.nil _ _, Below.refl _ _⟩
  case round =>
    obtain ⟨n, rows, hn, rfl, hrows, hwas, hB⟩ := hrel
    obtain ⟨wq, hwq⟩ : ∃ wq, wq = wr := ⟨_, rfl⟩
    subst hwq
    have k0' := (Upd.same (S := fun _ => False) hB).cell k0 id
    have hl' := hP.l.same hB
    by_cases hlt : n < S.length
    · obtain ⟨g, cp, hg, c0, c1, c2, ⟨ra, rc, c3, hrv⟩, hrun, _⟩ := (hss.same hB).at (i := n) (by rw [hsl]; exact hlt)
      simp only [hsl, Value.slice.injEq] at hg
      obtain ⟨rfl, _, rfl⟩ := hg
      have hsn : (S.map fun z => (z.1, z.2.1))[n]'(by rw [hsl]; exact hlt) = (S[n].1, S[n].2.1) := by simp
      rw [hsn] at c0 c1 c2 c3 hrv hrun
      have htk : (S.take (n + 1)).map (fun z => seen L0 z.1 60) = (S.take n).map (fun z => seen L0 z.1 60) ++ [seen L0 S[n].1 60] := by rw [List.take_succ_eq_append_getElem hlt, List.map_append]; rfl
      obtain ⟨s, hs⟩ : ∃ s, s = S[n].1 := ⟨_, rfl⟩
      obtain ⟨rv, hrv'⟩ : ∃ rv, rv = S[n].2.1 := ⟨_, rfl⟩
      simp only [← hs, ← hrv'] at c0 c1 c2 c3 hrv hrun htk
      clear hs hrv' hsn
      subst hrv
      have HT := Lib.hid htk; clear htk
      have HR := Lib.hid hrows; clear hrows
      go_wp2_with fail
      obtain ⟨wo, hwo⟩ : ∃ wo, wo = wq.alloc (.cells #[.int .u64 s.own, .int .u64 s.xmin, .int .u64 s.xmax, .slice ra s.run.length rc] 66) := ⟨_, rfl⟩
      have q0 : wo.cell? ⟨wq.heap.size, 0, none⟩ = some (.int .u64 s.own) := by rw [hwo]; exact cell_of_block (heap_new1 wq _) rfl
      have q1 : wo.cell? ⟨wq.heap.size, 1, none⟩ = some (.int .u64 s.xmin) := by rw [hwo]; exact cell_of_block (heap_new1 wq _) rfl
      have q2 : wo.cell? ⟨wq.heap.size, 2, none⟩ = some (.int .u64 s.xmax) := by rw [hwo]; exact cell_of_block (heap_new1 wq _) rfl
      have q3 : wo.cell? ⟨wq.heap.size, 3, none⟩ = some (.slice ra s.run.length rc) := by rw [hwo]; exact cell_of_block (heap_new1 wq _) rfl
      have hal : Below wq.heap.size wq wo := by rw [hwo]; exact (Below.refl _ _).alloc (Nat.le_refl _) _
      have hwas' := hwas.same hal
      have hlo := hl'.same hal
      have hro := hrun.same hal
      have k0o := (Upd.same (S := fun _ => False) hal).cell k0' id
      rw [← hwo]
      have HBo := Lib.hid (hB.trans (hal.mono hB.size))
      clear hal hwo hwas hl' hrun k0' c0 c1 c2 c3 hB
      go_loopw [10, 35] (fun v i wi => ∃ j : Nat, j ≤ 60 ∧ i = .int .u64 j ∧ wi.ownsRow wo.heap.size 4 1 v j (bools (seen L0 s j)) ∧ Below wo.heap.size wo wi) (fun _ i _ => 60 - (intOf i).toNat)
      case atStart => exact ⟨0, by omega, rfl, World.ownsRow_nil _ _ _ _, Below.refl _ _⟩
      case round =>
        obtain ⟨j, hj, rfl, hown, hBi⟩ := hrel
        have hzi := hBi.size
        by_cases hjl : j < 60
        · have p0 := (Upd.same (S := fun _ => False) hBi).cell q0 id
          have p1 := (Upd.same (S := fun _ => False) hBi).cell q1 id
          have p2 := (Upd.same (S := fun _ => False) hBi).cell q2 id
          have p3 := (Upd.same (S := fun _ => False) hBi).cell q3 id
          have kk := (Upd.same (S := fun _ => False) hBi).cell k0o id
          have hld : LogAt c 1 wr.drew pl 1 L0 := (hlo.same hBi).drewN 1
          have hrd : Run wr.drew (.slice ra s.run.length rc) s.run := (hro.same hBi).drewN 1
          have hv := sees_at (s := s) hld hrd j
          unfold Snp.val at hv
          have HV := Lib.hid hv; clear hv
          have hrl := (hro.same hBi).2
          go_wp2_with fail
          have hpbo := World.block_lt_of_cell? wo _ k0o
          have hqo := World.block_lt_of_cell? wo _ q0
          simp only at hpbo hqo
          have hoB : ¬ u10.ownBlock = some pb := fun e => by have := (World.ownsRow.lt hown _ e).1; omega
          have hoS : ¬ u10.ownBlock = some wq.heap.size := fun e => by have := (World.ownsRow.lt hown _ e).1; omega
          have hS0 : wr.cell? ⟨pb, 0, none⟩ = some (.pointer (some ⟨pl, 0, none⟩)) ∧ wr.cell? ⟨wq.heap.size, 0, none⟩ = some (.int .u64 s.own) ∧ wr.cell? ⟨wq.heap.size, 1, none⟩ = some (.int .u64 s.xmin) ∧ wr.cell? ⟨wq.heap.size, 2, none⟩ = some (.int .u64 s.xmax) ∧ wr.cell? ⟨wq.heap.size, 3, none⟩ = some (.slice ra s.run.length rc) := ⟨kk, p0, p1, p2, p3⟩
          go_region_held3 (fun z => z.cell? ⟨pb, 0, none⟩ = some (.pointer (some ⟨pl, 0, none⟩)) ∧ z.cell? ⟨wq.heap.size, 0, none⟩ = some (.int .u64 s.own) ∧ z.cell? ⟨wq.heap.size, 1, none⟩ = some (.int .u64 s.xmin) ∧ z.cell? ⟨wq.heap.size, 2, none⟩ = some (.int .u64 s.xmax) ∧ z.cell? ⟨wq.heap.size, 3, none⟩ = some (.slice ra s.run.length rc))
            (first | exact hS3 | exact cells5_same hS2 ((Below.refl _ _).alloc (Nat.le_refl _) _) | exact hS2 | exact hS0)
            (first
              | (go_at_call 33; (with_reducible refine HV.out.mono ?_); rintro e wt ⟨rfl, hBt⟩; have hBr : Below wr.heap.size wr wt := ⟨hBt.os, hBt.tape, hBt.output, hBt.size, hBt.block⟩; have hS2 := cells5_same hS0 hBr)
              | (have _hb := hBt; refine step_append_mine rfl (.tmp 38) (.tmp 46) 67 rfl wo.heap.size 4 i4 (.bool false) 1 1 Try.underlying67 hi4 hz40 hz41 hz42 rfl (by decide) _ _ _ rfl (World.ownsRow.alloc (ownsRow_upd (S := fun _ => False) hown (Upd.same hBr) (fun _ _ x => x)) _) ⟨wt.heap.size, 0, none⟩ 1 1 [.bool (sees 1 L0 s j)] rfl rfl (cell_one_new _ _ _) (by intro u hu; simp at hu; subst hu; rfl) (by unfold maxLen; omega) (by omega) (by have := hBr.size; simp; omega) ?_; intro v' w5 hown' hupd hnew; have hS3 := cells5 (cells5_same hS2 ((Below.refl _ _).alloc (Nat.le_refl _) _)) hupd hoB hoS hoS hoS hoS))
          have hb5 : Below wo.heap.size wr w5 := Upd.below (S := fun b => u10.ownBlock = some b) ((Upd.same (hBr.alloc hBr.size _)).trans hupd) hzi (fun b hb e => by have := (World.ownsRow.lt hown _ e).1; omega)
          go_wp2_with fail
          go_roundw
          case rel => exact ⟨j + 1, by omega, by go_num, by rw [seen_succ]; simpa [bools] using hown', hBi.trans hb5⟩
          case measure => simp [intOf]; omega
        · have hje : j = 60 := by omega
          subst hje
          obtain ⟨la, lc, hlv⟩ := ownsRow_slice hown
          subst hlv
          have hwas2 := hwas'.same hBi
          have hB2i := HBo.out.trans (hBi.mono HBo.out.size)
          have hzB := hB2i.size
          have hlen := hwas2.1.1
          have hrl : rows.length = n := by
            have := congrArg List.length HR.out
            simpa [Nat.min_eq_left hn] using this
          go_wp2_with (at_builtin; refine wpList_append_mine rfl (.tmp 49) (.tmp 51) 60 rfl w2.heap.size 67 i67 (.slice none 0 0) 1 24 Try.underlying60 hi67 hz670 hz671 hz672 rfl (by decide) _ _ _ rfl (World.ownsRow.alloc hwas2.1 _) ⟨wr.heap.size, 0, none⟩ 1 1 [.slice la 60 lc] rfl rfl ?c1 ?c2 ?c3 ?c4 ?c5 ?_)
          case c1 => exact cell_one_new _ _ _
          case c2 => intro u hu; simp at hu; subst hu; rfl
          case c3 => unfold maxLen; omega
          case c4 => omega
          case c5 => simp; omega
          intro v' w5 hown' hupd hnew
          have hwn : ∀ b, u7.ownBlock = some b → w2.heap.size ≤ b := fun b hb => (World.ownsRow.lt hwas2.1 b hb).1
          have hbw : Below w2.heap.size wr w5 := Upd.below (S := fun b => u7.ownBlock = some b) ((Upd.same ((Below.refl _ _).alloc (Nat.le_refl _) _)).trans hupd) hzB (fun b hb e => by have := hwn _ e; omega)
          go_wp2_with fail
          go_roundw
          case rel =>
            refine ⟨n + 1, rows ++ [(.slice la 60 lc, seen L0 s 60)], by omega, by go_num, ?_, ⟨?_, ?_⟩, hB2i.trans hbw⟩
            · rw [List.map_append, HR.out, HT.out]; rfl
            · simpa [hrl] using hown'
            · intro x hx
              have hap : ∀ y : Value, ∀ l : List Value, wr.ownsRow w2.heap.size 4 1 y l.length l → w5.ownsRow w2.heap.size 4 1 y l.length l := fun y l hy =>
                ownsRow_upd (ownsRow_upd (S := fun _ => False) hy (Upd.same ((Below.refl _ _).alloc (Nat.le_refl _) (.cells #[.slice la 60 lc] 67))) (fun _ _ => id)) hupd (rows_apart hy hwas2.1 (by decide))
              rcases List.mem_append.1 hx with hx | hx
              · have h1 := hwas2.2 x hx
                have := hap x.1 (bools x.2) (by simpa [bools] using h1)
                simpa [bools] using this
              · obtain rfl := List.mem_singleton.1 hx
                have h1 := ownsRow_base hown (show w2.heap.size ≤ wo.heap.size from HBo.out.size)
                have := hap (.slice la 60 lc) (bools (seen L0 s 60)) (by simpa [bools, length_seen] using h1)
                simpa [bools, length_seen] using this
          case measure => simp [intOf]; omega
    · have hnl : n = S.length := by omega
      subst hnl
      rw [List.take_length] at hrows
      have hold : ∀ b, b < w2.heap.size → col c w2.heap.size 6 b = c b := fun b hb => col_old hb
      have hpl := World.block_lt_of_cell? w2 _ k0
      have hSt : Stay w1 pb pl w2.heap.size wq.heap.size (.slice sa S.length sc) u7 (S.map fun z => (z.1, z.2.1)) rows (col c w2.heap.size 6) wq L0 :=
        ⟨k0', (Upd.same (S := fun _ => False) hB).cell k2 id, (hold _ hpl).trans hP.own, (hP.l.recol hold).same hB, (hss.recol hold).same hB, hwas.in, fun b h _ => col_new h, Nat.le_refl _, col_zero hP.col hB2.size, hB2.trans (hB.mono hB2.size)⟩
      have hstd : Steady L0 L0 (S.map (·.1)) := ⟨fun s hs => by obtain ⟨z, hz, rfl⟩ := List.mem_map.1 hs; exact hP.fits z hz, fun _ _ _ _ => rfl⟩
      obtain ⟨c6, hc6⟩ : ∃ c6, c6 = col c w2.heap.size 6 := ⟨_, rfl⟩
      rw [← hc6] at hSt
      obtain ⟨E, hE⟩ : ∃ E, E = wq.heap.size := ⟨_, rfl⟩
      obtain ⟨B, hBB⟩ : ∃ B, B = w2.heap.size := ⟨_, rfl⟩
      rw [← hE, ← hBB] at hSt
      have HR := Lib.hid hrows; clear hrows
      clear hc6 hE hBB hB hwas hl' k0' hold hpl hss k0 k2 hP hB2
      go_wp2_with fail
      go_loopw [56] (fun i wr => ∃ (j : Nat) (c : Nat → Nat) (L : List Nat), j ≤ n2 ∧ i = .int .i64 j ∧ Stay w1 pb pl B E (.slice sa S.length sc) u7 (S.map fun z => (z.1, z.2.1)) rows c wr L ∧ Steady L0 L (S.map (·.1)) ∧ L.length ≤ 1000 + j) (fun i _ => n2 - (intOf i).toNat)
      case atStart => exact ⟨0, _, _, Nat.zero_le _, rfl, hSt, hstd, by omega⟩
      case round =>
        clear hSt hstd
        obtain ⟨j, c, L, hj, rfl, hSt, hstd, hL⟩ := hrel
        by_cases hgo : j < n2 ∧ j < 30
        · obtain ⟨hlt, h30⟩ := hgo
          obtain ⟨b, off, d, x, ha, hb, e0, e1, d0, d1, x0, x1⟩ := HS2.out j hlt
          subst ha
          have hBw := b1.trans (hSt.below.mono b1.size)
          have e0' := (hBw.cell (p := ⟨b, off + j * 2, none⟩) hb).trans e0
          have e1' := (hBw.cell (p := ⟨b, off + j * 2 + 1, none⟩) hb).trans e1
          clear e0 e1 hBw
          have hSa := hSt.box (.cells #[.int .u8 d, .int .u64 x] 70)
          have hcw : col c wr.heap.size 7 wr.heap.size = 7 := col_new (Nat.le_refl _)
          have hob := heap_new1 wr (.cells #[.int .u8 d, .int .u64 x] 70)
          have kl := hSa.c0
          have hj30 : (j : Int) < 30 := by omega
          have hd4 : d % 4 = 0 ∨ d % 4 = 1 ∨ (d % 4 ≠ 0 ∧ d % 4 ≠ 1) := by omega
          rcases hd4 with h | h | ⟨h, h'⟩
          · have q0 : (d % 4 == 0) = true := by rw [beq_iff_eq]; exact h
            clear h
            go_wp2_with (go_at_call 18; (with_reducible refine (stay_begin hSa (by omega)).mono ?_); rintro e wa ⟨rfl, ca, hSb⟩)
            go_roundw
            case rel => exact ⟨j + 1, _, _, by omega, by go_num, hSb, hstd.begin, by simp; omega⟩
            case measure => simp [intOf]; omega
          · have q0 : (d % 4 == 0) = false := by rw [beq_eq_false_iff_ne]; omega
            have q1 : (d % 4 == 1) = true := by rw [beq_iff_eq]; exact h
            clear h
            go_wp2_with fail
            have hS0 : (wr.alloc (.cells #[.int .u8 d, .int .u64 x] 70)).drew.cell? ⟨pb, 0, none⟩ = some (.pointer (some ⟨pl, 0, none⟩)) ∧ (wr.alloc (.cells #[.int .u8 d, .int .u64 x] 70)).drew.cell? ⟨wr.heap.size, 1, none⟩ = some (.int .u64 x) := ⟨kl, cell_of_block hob rfl⟩
            have hSd := hSa.drew
            go_region_held3 (fun z => z.cell? ⟨pb, 0, none⟩ = some (.pointer (some ⟨pl, 0, none⟩)) ∧ z.cell? ⟨wr.heap.size, 1, none⟩ = some (.int .u64 x))
              (first | exact ⟨hSb.c0, hu.cell hS0.2 (by simp only [hcw]; decide)⟩ | exact hS0)
              (first | (go_at_call 25; (with_reducible refine (stay_abort hSd _).mono ?_); rintro e wa ⟨rfl, hSb, hu⟩))
            go_wp2_with fail
            go_roundw
            case rel => exact ⟨j + 1, _, _, by omega, by go_num, hSb, hstd.ended _ (by decide), by rw [length_ended]; omega⟩
            case measure => simp [intOf]; omega
          · have q0 : (d % 4 == 0) = false := by rw [beq_eq_false_iff_ne]; omega
            have q1 : (d % 4 == 1) = false := by rw [beq_eq_false_iff_ne]; omega
            clear h h'
            go_wp2_with fail
            have hS0 : (wr.alloc (.cells #[.int .u8 d, .int .u64 x] 70)).drew.cell? ⟨pb, 0, none⟩ = some (.pointer (some ⟨pl, 0, none⟩)) ∧ (wr.alloc (.cells #[.int .u8 d, .int .u64 x] 70)).drew.cell? ⟨wr.heap.size, 1, none⟩ = some (.int .u64 x) := ⟨kl, cell_of_block hob rfl⟩
            have hSd := hSa.drew
            go_region_held3 (fun z => z.cell? ⟨pb, 0, none⟩ = some (.pointer (some ⟨pl, 0, none⟩)) ∧ z.cell? ⟨wr.heap.size, 1, none⟩ = some (.int .u64 x))
              (first | exact ⟨hSb.c0, hu.cell hS0.2 (by simp only [hcw]; decide)⟩ | exact hS0)
              (first | (go_at_call 23; (with_reducible refine (stay_commit hSd _).mono ?_); rintro e wa ⟨rfl, hSb, hu⟩))
            go_wp2_with fail
            go_roundw
            case rel => exact ⟨j + 1, _, _, by omega, by go_num, hSb, hstd.ended _ (by decide), by rw [length_ended]; omega⟩
            case measure => simp [intOf]; omega
        · by_cases hlt : j < n2
          · obtain ⟨b, off, d, x, ha, hb, e0, e1, d0, d1, x0, x1⟩ := HS2.out j hlt
            subst ha
            have hBw := b1.trans (hSt.below.mono b1.size)
            have e0' := (hBw.cell (p := ⟨b, off + j * 2, none⟩) hb).trans e0
            have e1' := (hBw.cell (p := ⟨b, off + j * 2 + 1, none⟩) hb).trans e1
            clear e0 e1 hBw
            have hSz := hSt.alloc (.cells #[.int .u8 d, .int .u64 x] 70)
            have kl := hSz.c0
            have k2 := hSz.c2
            have hj30 : ¬ (j : Int) < 30 := by omega
            go_wp2_with fail
            obtain ⟨wz, hwz⟩ : ∃ wz, wz = wr.alloc (.cells #[.int .u8 d, .int .u64 x] 70) := ⟨_, rfl⟩
            rw [← hwz] at hSz
            rw [← hwz]
            clear hSt hwz kl k2 hgo e0' e1'
            obtain ⟨ua, uc, hu7⟩ := ownsRow_slice hSz.was.was.1
            have hrl : rows.length = S.length := by
              have := congrArg List.length HR.out
              simpa using this
            rw [hrl] at hu7
            subst hu7
            go_loopw [97] (fun i wv => ∃ k : Nat, k ≤ S.length ∧ i = .int .i64 k ∧ Below wz.heap.size wz wv) (fun i _ => S.length - (intOf i).toNat)
            case atStart => exact ⟨0, Nat.zero_le _, rfl, Below.refl _ _⟩
            case round =>
              obtain ⟨k, hk, rfl, hBz⟩ := hrel
              obtain ⟨wy, hwy⟩ : ∃ wy, wy = wr := ⟨_, rfl⟩
              subst hwy
              have hSk := hSz.same hBz
              by_cases hkl : k < S.length
              · have hrow : (rows[k]'(by rw [hrl]; exact hkl)).2 = seen L0 S[k].1 60 := by
                  have := congrArg (fun l => l[k]?) HR.out
                  simpa [hkl, hrl] using this
                have hst := hstd.same _ (List.mem_map.2 ⟨S[k], List.getElem_mem hkl, rfl⟩)
                obtain ⟨g, cp, hg, c0, c1, c2, ⟨ra, rc, c3, hrv⟩, hrun, _⟩ := hSk.s.at (i := k) (by rw [hsl]; exact hkl)
                simp only [hsl, Value.slice.injEq] at hg
                obtain ⟨rfl, _, rfl⟩ := hg
                have hsn : (S.map fun z => (z.1, z.2.1))[k]'(by rw [hsl]; exact hkl) = (S[k].1, S[k].2.1) := by simp
                rw [hsn] at c0 c1 c2 c3 hrv hrun
                obtain ⟨s, hs⟩ : ∃ s, s = S[k].1 := ⟨_, rfl⟩
                obtain ⟨rv, hrv'⟩ : ∃ rv, rv = S[k].2.1 := ⟨_, rfl⟩
                simp only [← hs, ← hrv'] at c0 c1 c2 c3 hrv hrun hrow hst
                clear hs hrv' hsn
                subst hrv
                have HST := Lib.hid hst; clear hst
                have HROW := Lib.hid hrow; clear hrow
                go_wp2_with fail
                obtain ⟨wo, hwo⟩ : ∃ wo, wo = wy.alloc (.cells #[.int .u64 s.own, .int .u64 s.xmin, .int .u64 s.xmax, .slice ra s.run.length rc] 66) := ⟨_, rfl⟩
                have q0 : wo.cell? ⟨wy.heap.size, 0, none⟩ = some (.int .u64 s.own) := by rw [hwo]; exact cell_of_block (heap_new1 wy _) rfl
                have q1 : wo.cell? ⟨wy.heap.size, 1, none⟩ = some (.int .u64 s.xmin) := by rw [hwo]; exact cell_of_block (heap_new1 wy _) rfl
                have q2 : wo.cell? ⟨wy.heap.size, 2, none⟩ = some (.int .u64 s.xmax) := by rw [hwo]; exact cell_of_block (heap_new1 wy _) rfl
                have q3 : wo.cell? ⟨wy.heap.size, 3, none⟩ = some (.slice ra s.run.length rc) := by rw [hwo]; exact cell_of_block (heap_new1 wy _) rfl
                have hal : Below wy.heap.size wy wo := by rw [hwo]; exact (Below.refl _ _).alloc (Nat.le_refl _) _
                have hSo := hSk.same hal
                have hro := hrun.same hal
                rw [← hwo]
                have hBzo := hBz.trans (hal.mono hBz.size)
                clear hal hwo hSk hrun c0 c1 c2 c3 hBz
                go_loopw [102] (fun i wv => ∃ j : Nat, j ≤ 60 ∧ i = .int .u64 j ∧ Below wo.heap.size wo wv) (fun i _ => 60 - (intOf i).toNat)
                case atStart => exact ⟨0, by omega, rfl, Below.refl _ _⟩
                case round =>
                  obtain ⟨j, hj, rfl, hBi⟩ := hrel
                  have hzi := hBi.size
                  by_cases hjl : j < 60
                  · have hSi := hSo.same hBi
                    have hkk : ∀ {a : Addr} {v : Value}, wo.cell? a = some v → wr.cell? a = some v := fun e => (Upd.same (S := fun _ => False) hBi).cell e id
                    have p0 := hkk q0
                    have p1 := hkk q1
                    have p2 := hkk q2
                    have p3 := hkk q3
                    clear hkk
                    have hjj : (rows[k]'(by rw [hrl]; exact hkl)).2[j]? = some (sees 1 L0 s j) := by rw [HROW.out]; exact getElem?_seen L0 s 60 hjl
                    obtain ⟨g1, cap1', g2, cap2', hg1, w1c, w2c⟩ := hSi.was.was.at (by rw [hrl]; exact hkl) hjj
                    rw [HROW.out, length_seen] at w1c
                    rw [hrl] at hg1
                    simp only [Value.slice.injEq] at hg1
                    obtain ⟨hg1, _, hg2⟩ := hg1
                    subst hg1
                    clear hg2 hjj
                    by_cases hx : (j : Int) = s.own
                    · have hb : ((j : Int) != s.own) = false := by rw [hx]; simp
                      clear hx
                      go_wp2_with fail
                      go_quiet (fail)
                      go_wp2_with fail
                      go_roundw
                      case rel => exact ⟨j + 1, by omega, by go_num, hBi.trans below_drewN⟩
                      case measure => simp [intOf]; omega
                    · have hb : ((j : Int) != s.own) = true := by rw [bne_iff_ne]; exact hx
                      have hse := HST.out j hx
                      clear hx
                      have hld : LogAt c 1 wr.drew pl 1 L := hSi.l.drewN 1
                      have hrd : Run wr.drew (.slice ra s.run.length rc) s.run := (hro.same hBi).drewN 1
                      have hv := sees_at (s := s) hld hrd j
                      unfold Snp.val at hv
                      rw [hse] at hv
                      clear hse
                      obtain ⟨u, hu⟩ : ∃ u, u = sees 1 L0 s j := ⟨_, rfl⟩
                      rw [← hu] at hv w2c
                      have HV := Lib.hid hv; clear hv hu
                      have huu : (u != u) = false := by simp
                      have hrl2 := hro.2
                      go_wp2_with fail
                      have hS0 : wr.cell? ⟨pb, 0, none⟩ = some (.pointer (some ⟨pl, 0, none⟩)) ∧ wr.cell? ⟨wy.heap.size, 0, none⟩ = some (.int .u64 s.own) ∧ wr.cell? ⟨wy.heap.size, 1, none⟩ = some (.int .u64 s.xmin) ∧ wr.cell? ⟨wy.heap.size, 2, none⟩ = some (.int .u64 s.xmax) ∧ wr.cell? ⟨wy.heap.size, 3, none⟩ = some (.slice ra s.run.length rc) ∧
                          wr.cell? ⟨g1, k, none⟩ = some (.slice (some ⟨g2, 0, none⟩) 60 cap2') ∧ wr.cell? ⟨g2, j, none⟩ = some (.bool u) := ⟨hSi.c0, p0, p1, p2, p3, w1c, w2c⟩
                      go_region_held3 (fun z => z.cell? ⟨pb, 0, none⟩ = some (.pointer (some ⟨pl, 0, none⟩)) ∧ z.cell? ⟨wy.heap.size, 0, none⟩ = some (.int .u64 s.own) ∧ z.cell? ⟨wy.heap.size, 1, none⟩ = some (.int .u64 s.xmin) ∧ z.cell? ⟨wy.heap.size, 2, none⟩ = some (.int .u64 s.xmax) ∧ z.cell? ⟨wy.heap.size, 3, none⟩ = some (.slice ra s.run.length rc) ∧
                          z.cell? ⟨g1, k, none⟩ = some (.slice (some ⟨g2, 0, none⟩) 60 cap2') ∧ z.cell? ⟨g2, j, none⟩ = some (.bool u))
                        (first | exact hS2 | exact hS0)
                        (first
                          | (go_at_call 33; (with_reducible refine HV.out.mono ?_); rintro e wt ⟨rfl, hBt⟩; have hBr : Below wr.heap.size wr wt := ⟨hBt.os, hBt.tape, hBt.output, hBt.size, hBt.block⟩; have hS2 := cells7_same hS0 hBr))
                      go_wp2_with fail
                      go_roundw
                      case rel => exact ⟨j + 1, by omega, by go_num, hBi.trans (hBr.mono hzi)⟩
                      case measure => simp [intOf]; omega
                  · have hje : ¬ (j : Int) < 60 := by omega
                    go_wp2_with fail
                    go_roundw
                    case rel => exact ⟨k + 1, by omega, by go_num, hBzo.trans (hBi.mono hBzo.size)⟩
                    case measure => simp [intOf]; omega
              · have hke : ¬ (k : Int) < S.length := by omega
                go_wp2_with fail
                go_ret
                exact ⟨rfl, b1.trans (hSk.below.mono b1.size)⟩
          · have hj30 : ¬ (j : Int) < n2 := by omega
            have kl := hSt.c0
            have k2 := hSt.c2
            go_wp2_with fail
            obtain ⟨wz, hwz⟩ : ∃ wz, wz = wr := ⟨_, rfl⟩
            subst hwz
            have hSz := hSt
            clear hSt kl k2 hgo
            obtain ⟨ua, uc, hu7⟩ := ownsRow_slice hSz.was.was.1
            have hrl : rows.length = S.length := by
              have := congrArg List.length HR.out
              simpa using this
            rw [hrl] at hu7
            subst hu7
            go_loopw [97] (fun i wv => ∃ k : Nat, k ≤ S.length ∧ i = .int .i64 k ∧ Below wz.heap.size wz wv) (fun i _ => S.length - (intOf i).toNat)
            case atStart => exact ⟨0, Nat.zero_le _, rfl, Below.refl _ _⟩
            case round =>
              obtain ⟨k, hk, rfl, hBz⟩ := hrel
              obtain ⟨wy, hwy⟩ : ∃ wy, wy = wr := ⟨_, rfl⟩
              subst hwy
              have hSk := hSz.same hBz
              by_cases hkl : k < S.length
              · have hrow : (rows[k]'(by rw [hrl]; exact hkl)).2 = seen L0 S[k].1 60 := by
                  have := congrArg (fun l => l[k]?) HR.out
                  simpa [hkl, hrl] using this
                have hst := hstd.same _ (List.mem_map.2 ⟨S[k], List.getElem_mem hkl, rfl⟩)
                obtain ⟨g, cp, hg, c0, c1, c2, ⟨ra, rc, c3, hrv⟩, hrun, _⟩ := hSk.s.at (i := k) (by rw [hsl]; exact hkl)
                simp only [hsl, Value.slice.injEq] at hg
                obtain ⟨rfl, _, rfl⟩ := hg
                have hsn : (S.map fun z => (z.1, z.2.1))[k]'(by rw [hsl]; exact hkl) = (S[k].1, S[k].2.1) := by simp
                rw [hsn] at c0 c1 c2 c3 hrv hrun
                obtain ⟨s, hs⟩ : ∃ s, s = S[k].1 := ⟨_, rfl⟩
                obtain ⟨rv, hrv'⟩ : ∃ rv, rv = S[k].2.1 := ⟨_, rfl⟩
                simp only [← hs, ← hrv'] at c0 c1 c2 c3 hrv hrun hrow hst
                clear hs hrv' hsn
                subst hrv
                have HST := Lib.hid hst; clear hst
                have HROW := Lib.hid hrow; clear hrow
                go_wp2_with fail
                obtain ⟨wo, hwo⟩ : ∃ wo, wo = wy.alloc (.cells #[.int .u64 s.own, .int .u64 s.xmin, .int .u64 s.xmax, .slice ra s.run.length rc] 66) := ⟨_, rfl⟩
                have q0 : wo.cell? ⟨wy.heap.size, 0, none⟩ = some (.int .u64 s.own) := by rw [hwo]; exact cell_of_block (heap_new1 wy _) rfl
                have q1 : wo.cell? ⟨wy.heap.size, 1, none⟩ = some (.int .u64 s.xmin) := by rw [hwo]; exact cell_of_block (heap_new1 wy _) rfl
                have q2 : wo.cell? ⟨wy.heap.size, 2, none⟩ = some (.int .u64 s.xmax) := by rw [hwo]; exact cell_of_block (heap_new1 wy _) rfl
                have q3 : wo.cell? ⟨wy.heap.size, 3, none⟩ = some (.slice ra s.run.length rc) := by rw [hwo]; exact cell_of_block (heap_new1 wy _) rfl
                have hal : Below wy.heap.size wy wo := by rw [hwo]; exact (Below.refl _ _).alloc (Nat.le_refl _) _
                have hSo := hSk.same hal
                have hro := hrun.same hal
                rw [← hwo]
                have hBzo := hBz.trans (hal.mono hBz.size)
                clear hal hwo hSk hrun c0 c1 c2 c3 hBz
                go_loopw [102] (fun i wv => ∃ j : Nat, j ≤ 60 ∧ i = .int .u64 j ∧ Below wo.heap.size wo wv) (fun i _ => 60 - (intOf i).toNat)
                case atStart => exact ⟨0, by omega, rfl, Below.refl _ _⟩
                case round =>
                  obtain ⟨j, hj, rfl, hBi⟩ := hrel
                  have hzi := hBi.size
                  by_cases hjl : j < 60
                  · have hSi := hSo.same hBi
                    have hkk : ∀ {a : Addr} {v : Value}, wo.cell? a = some v → wr.cell? a = some v := fun e => (Upd.same (S := fun _ => False) hBi).cell e id
                    have p0 := hkk q0
                    have p1 := hkk q1
                    have p2 := hkk q2
                    have p3 := hkk q3
                    clear hkk
                    have hjj : (rows[k]'(by rw [hrl]; exact hkl)).2[j]? = some (sees 1 L0 s j) := by rw [HROW.out]; exact getElem?_seen L0 s 60 hjl
                    obtain ⟨g1, cap1', g2, cap2', hg1, w1c, w2c⟩ := hSi.was.was.at (by rw [hrl]; exact hkl) hjj
                    rw [HROW.out, length_seen] at w1c
                    rw [hrl] at hg1
                    simp only [Value.slice.injEq] at hg1
                    obtain ⟨hg1, _, hg2⟩ := hg1
                    subst hg1
                    clear hg2 hjj
                    by_cases hx : (j : Int) = s.own
                    · have hb : ((j : Int) != s.own) = false := by rw [hx]; simp
                      clear hx
                      go_wp2_with fail
                      go_quiet (fail)
                      go_wp2_with fail
                      go_roundw
                      case rel => exact ⟨j + 1, by omega, by go_num, hBi.trans below_drewN⟩
                      case measure => simp [intOf]; omega
                    · have hb : ((j : Int) != s.own) = true := by rw [bne_iff_ne]; exact hx
                      have hse := HST.out j hx
                      clear hx
                      have hld : LogAt c 1 wr.drew pl 1 L := hSi.l.drewN 1
                      have hrd : Run wr.drew (.slice ra s.run.length rc) s.run := (hro.same hBi).drewN 1
                      have hv := sees_at (s := s) hld hrd j
                      unfold Snp.val at hv
                      rw [hse] at hv
                      clear hse
                      obtain ⟨u, hu⟩ : ∃ u, u = sees 1 L0 s j := ⟨_, rfl⟩
                      rw [← hu] at hv w2c
                      have HV := Lib.hid hv; clear hv hu
                      have huu : (u != u) = false := by simp
                      have hrl2 := hro.2
                      go_wp2_with fail
                      have hS0 : wr.cell? ⟨pb, 0, none⟩ = some (.pointer (some ⟨pl, 0, none⟩)) ∧ wr.cell? ⟨wy.heap.size, 0, none⟩ = some (.int .u64 s.own) ∧ wr.cell? ⟨wy.heap.size, 1, none⟩ = some (.int .u64 s.xmin) ∧ wr.cell? ⟨wy.heap.size, 2, none⟩ = some (.int .u64 s.xmax) ∧ wr.cell? ⟨wy.heap.size, 3, none⟩ = some (.slice ra s.run.length rc) ∧
                          wr.cell? ⟨g1, k, none⟩ = some (.slice (some ⟨g2, 0, none⟩) 60 cap2') ∧ wr.cell? ⟨g2, j, none⟩ = some (.bool u) := ⟨hSi.c0, p0, p1, p2, p3, w1c, w2c⟩
                      go_region_held3 (fun z => z.cell? ⟨pb, 0, none⟩ = some (.pointer (some ⟨pl, 0, none⟩)) ∧ z.cell? ⟨wy.heap.size, 0, none⟩ = some (.int .u64 s.own) ∧ z.cell? ⟨wy.heap.size, 1, none⟩ = some (.int .u64 s.xmin) ∧ z.cell? ⟨wy.heap.size, 2, none⟩ = some (.int .u64 s.xmax) ∧ z.cell? ⟨wy.heap.size, 3, none⟩ = some (.slice ra s.run.length rc) ∧
                          z.cell? ⟨g1, k, none⟩ = some (.slice (some ⟨g2, 0, none⟩) 60 cap2') ∧ z.cell? ⟨g2, j, none⟩ = some (.bool u))
                        (first | exact hS2 | exact hS0)
                        (first
                          | (go_at_call 33; (with_reducible refine HV.out.mono ?_); rintro e wt ⟨rfl, hBt⟩; have hBr : Below wr.heap.size wr wt := ⟨hBt.os, hBt.tape, hBt.output, hBt.size, hBt.block⟩; have hS2 := cells7_same hS0 hBr))
                      go_wp2_with fail
                      go_roundw
                      case rel => exact ⟨j + 1, by omega, by go_num, hBi.trans (hBr.mono hzi)⟩
                      case measure => simp [intOf]; omega
                  · have hje : ¬ (j : Int) < 60 := by omega
                    go_wp2_with fail
                    go_roundw
                    case rel => exact ⟨k + 1, by omega, by go_num, hBzo.trans (hBi.mono hBzo.size)⟩
                    case measure => simp [intOf]; omega
              · have hke : ¬ (k : Int) < S.length := by omega
                go_wp2_with fail
                go_ret
                exact ⟨rfl, b1.trans (hSk.below.mono b1.size)⟩
end Go.Proofs.Ytdohkjpapmkhjaa
