/- Package page: bytes that are handed on: Clone, pack, unpack. · Package page: pack, unpack, far, right. · Package page: copy and clear on rows of bytes; far, right, New, Slots, Get, Stamp. · Package page: far, right, New, Slots, Get, Stamp. No conditions. -/
import Derived.Test.YtnkjnclpakfgnaaGreatDoorMb1
import Derived.Test.YtnkjnclpakfgnaaGreatDoorMb2
import Derived.StillTailTactics
import Derived.Laws.CopyOwn
import Derived.Lib.SliceRun
namespace Go.Proofs.YtnkjnclpakfgnaaGreatDoor
open Go.RowKit
set_option maxRecDepth 100000

def u8l (l : List Nat) : List Value := l.map fun (b : Nat) => Value.int .u8 (b : Int)
@[simp] theorem u8l_length (l : List Nat) : (u8l l).length = l.length := by simp [u8l]
theorem u8l_get {l : List Nat} {i x : Nat} (h : l[i]? = some x) : (u8l l)[i]? = some (.int .u8 (x : Int)) := by simp [u8l, h]
theorem u8l_one (l : List Nat) : ∀ u ∈ u8l l, u.oneCell' = true := by intro u hu; simp [u8l] at hu; obtain ⟨_, _, rfl⟩ := hu; rfl
theorem u8l_append (a b : List Nat) : u8l (a ++ b) = u8l a ++ u8l b := by simp [u8l]

/-- d is a slice that says the bytes l, of which there is one at least. -/
def Bs (w : World) (d : Value) (l : List Nat) : Prop :=
 1 ≤ l.length ∧ (∀ x ∈ l, x < 256) ∧ ∃ b o cap, d = .slice (some ⟨b, o, none⟩) l.length cap ∧ b < w.heap.size ∧ l.length ≤ cap ∧ ∀ (i x : Nat), l[i]? = some x → w.cell? ⟨b, o + i, none⟩ = some (.int .u8 (x : Int))
section
variable {w w' : World} {d : Value} {l : List Nat}
theorem Bs.upd {S : Nat → Prop} (h : Bs w d l) (u : Upd S w w') (hs : ∀ b o n cap, d = .slice (some ⟨b, o, none⟩) n cap → ¬ S b) : Bs w' d l := by
 obtain ⟨h1, h2, b, o, cap, rfl, hb, hc⟩ := h
 exact ⟨h1, h2, b, o, cap, rfl, Nat.lt_of_lt_of_le hb u.size, hc.1, fun i x hx => u.cell (hc.2 i x hx) (hs _ _ _ _ rfl)⟩
theorem Bs.same (h : Bs w d l) (u : Below w.heap.size w w') : Bs w' d l := h.upd (S := fun _ => False) (Upd.same u) (fun _ _ _ _ _ => id)
theorem Bs.drewN (h : Bs w d l) (n : Nat) : Bs (w.drewN n) d l := h.upd (S := fun _ => False) (Upd.of_drewN n) (fun _ _ _ _ _ => id)
theorem Bs.of_row {base n : Nat} (h : w.ownsRow base 5 1 d n (u8l l)) (h1 : 1 ≤ l.length) (hl : ∀ x ∈ l, x < 256) : Bs w d l := by
 have hn : n = l.length := by have := h.1; simpa using this.symm
 subst hn
 obtain ⟨g, cap, rfl, hnc, _, hg⟩ := ownsRow_some h (by omega)
 refine ⟨h1, hl, g, 0, cap, rfl, hg, hnc, fun i x hx => ?_⟩
 obtain ⟨g', cap', e, c, _⟩ := ownsRow_cell1 h (u8l_get hx)
 simp only [Value.slice.injEq, Option.some.injEq, Addr.mk.injEq] at e
 obtain ⟨⟨rfl, _⟩, _, rfl⟩ := e
 rw [Nat.zero_add]; exact c

theorem add_atn (b o j : Nat) : (⟨b, o, none⟩ : Addr).add j = ⟨b, o + j, none⟩ := by simp [Addr.add]; try omega

set_option maxHeartbeats 1000000 in
/-- bytes.Clone. -/
theorem bclone_at (h : Bs w d l) (hl : l.length ≤ 100000) : Calls Tryz.prog 208 #[d] w fun r w' => ∃ v, r = .returned v ∧ Bs w' v l ∧ (∀ g, v.ownBlock = some g → w.heap.size ≤ g) ∧ w'.ownsRow w.heap.size 5 1 v l.length (u8l l) ∧ Below w.heap.size w w' := by
 obtain ⟨i0, hi, hz0, hz1, hz2⟩ := info_parts Tryz.info5
 obtain ⟨h1, h2, b, o, cap, rfl, hb, hc⟩ := h
 have hq := eql_some ⟨b, o, none⟩
 obtain ⟨n, hn⟩ : ∃ n, n = l.length := ⟨_, rfl⟩
 have hcs : ∀ j u, (u8l l)[j]? = some u → (w.alloc (.cells #[] 5)).cell? ((⟨b, o, none⟩ : Addr).add j) = some u := fun j u hj => by
  rw [add_atn]
  simp only [u8l, List.getElem?_map] at hj
  cases hx : l[j]? with
  | none => rw [hx] at hj; cases hj
  | some x =>
   rw [hx] at hj
   rw [← Option.some.inj hj]
   exact keeper ((Below.refl _ _).alloc (Nat.le_refl _) _) (hc.2 j x hx)
 have hl2 : (u8l l).length = n * 1 := by simp [hn]
 rw [← hn] at hl ⊢
 have H1 := Lib.hid h1; have H2 := Lib.hid h2; have HN := Lib.hid hn; have HCS := Lib.hid hcs; have HL := Lib.hid hl2
 clear h1 h2 hn hcs hc hl2
 go_enter Tryz.func208, Tryz.ntmps208
 have hown0 : (w.alloc (.cells #[] 5)).ownsRow w.heap.size 5 1 (.slice (some ⟨w.heap.size, 0, none⟩) 0 0) 0 [] := ⟨rfl, .inr ⟨w.heap.size, 0, #[], rfl, Nat.le_refl _, heap_new1 w _, Nat.le_refl _, by decide, rfl, rfl⟩⟩
 have hal : Below w.heap.size w (w.alloc (.cells #[] 5)) := (Below.refl _ _).alloc (Nat.le_refl _) _
 have HOWN := Lib.hid hown0
 clear hown0
 go_wp2_with (at_builtin; refine wpList_append_mine rfl (.tmp 5) (.tmp 6) 23 rfl w.heap.size 5 i0 (.int .u8 0) 1 1 Tryz.underlying23 hi hz0 hz1 hz2 rfl (by decide) _ _ _ rfl HOWN.out ⟨b, o, none⟩ n cap (u8l l) rfl HL.out HCS.out (u8l_one l) ?c3 ?c4 ?c5 ?_)
 case c3 => unfold maxLen; omega
 case c4 => omega
 case c5 => simp
 intro v' w5 hown' hupd hnew
 have hb5 : Below w.heap.size w w5 := Upd.below (S := fun b => w.heap.size ≤ b) ((Upd.of_below hal (fun b _ h => h)).trans (hupd.mono (fun b _ e => (World.ownsRow.lt HOWN.out b e).1))) (Nat.le_refl _) (fun b hb e => absurd hb (Nat.not_lt_of_le e))
 go_wp2_with fail
 go_ret
 exact ⟨_, rfl, Bs.of_row hown' H1.out H2.out, fun g hg => (World.ownsRow.lt hown' g hg).1, hown', hb5⟩
end
end Go.Proofs.YtnkjnclpakfgnaaGreatDoor
namespace Go.Proofs.YtnkjnclpakfgnaaGreatDoor
open Go.RowKit
set_option maxRecDepth 100000

/-- A version as a value. -/
def verT (v : Ver) (d : Value) : Value := tup v.row v.pg v.sl d v.xmin v.xmax
theorem make30 (w : World) : (Instr.makeSlice 23 (.int .i64 30) (.int .i64 30)).run Tryz.prog w = .ok (.slice (some ⟨w.heap.size, 0, none⟩) 30 30) (w.alloc (.cells (blkA 30 (fun _ => 0)) 5)) := by
 obtain ⟨i0, hi, hz0, hz1, hz2⟩ := info_parts Tryz.info5
 rw [run_make w 23 5 i0 (.int .u8 0) Tryz.underlying23 hi hz0 .i64 .i64 30 30 (by decide) (by decide) (by rw [hz2]; decide) (by decide), hz1, show madeCells (Value.int .u8 0).cells (Int.toNat 30 * 1) = blkA 30 (fun _ => 0) by kernel_rfl]
 rfl
theorem By.row {w : World} {b n : Nat} {f : Nat → Nat} (h : By w b 5 n f) (hn : n ≤ maxLen) (base : Nat) (hb : base ≤ b) : w.ownsRow base 5 1 (.slice (some ⟨b, 0, none⟩) n n) n (u8l (rd f 0 n)) := by
 refine ⟨by simp, .inr ⟨b, n, blkA n f, rfl, hb, h.2, Nat.le_refl _, hn, by rw [blkA_size]; omega, ?_⟩⟩
 rw [Nat.mul_one, List.take_of_length_le (by simp [blkA])]
 simp [blkA, u8l, rd]
theorem rd_head (f : Nat → Nat) (a c e : Nat) (p q : Nat) : rd (spl (spl (spl (spl (spl f 0 (leB 8 a)) 8 (leB 8 c)) 16 (leB 8 e)) 24 (leB 4 p)) 28 (leB 2 q)) 0 30 = leB 8 a ++ leB 8 c ++ leB 8 e ++ leB 4 p ++ leB 2 q := by
 rw [show 30 = 8 + 8 + 8 + 4 + 2 from rfl, rd_append, rd_append, rd_append, rd_append]
 simp only [Nat.zero_add, Nat.reduceAdd]
 congr 1
section
variable {w w' : World} {d : Value} {v : Ver}

set_option maxHeartbeats 2000000 in
theorem pack_at (hv : VerOk v) (hd : Bs w d v.data) :
    Calls Tryz.prog 413 #[verT v d] w fun r w' => ∃ x, r = .returned x ∧ Bs w' x (packV v) ∧ (∀ g, x.ownBlock = some g → w.heap.size ≤ g) ∧ Below w.heap.size w w' := by
 obtain ⟨k1, k2, k3, k4, k5, k6, k7⟩ := hv
 obtain ⟨row, xmin, xmax, pg, sl, data⟩ := v
 unfold verT tup
 simp only at k1 k2 k3 k4 k5 k6 k7 hd ⊢
 obtain ⟨h1, h2, b, o, cap, rfl, hb, hc⟩ := hd
 obtain ⟨pn, rfl, hpn⟩ : ∃ n : Nat, pg = (n : Int) - 1 ∧ n ≤ 65536 := ⟨(pg + 1).toNat, by unfold FarOk at k4; omega, by unfold FarOk at k4; omega⟩
 obtain ⟨sn, rfl, hsn⟩ : ∃ n : Nat, sl = (n : Int) - 1 ∧ n ≤ 65535 := ⟨(sl + 1).toNat, by unfold FarOk at k4; omega, by unfold FarOk at k4; omega⟩
 have hmk := make30
 have hdl := k5
 obtain ⟨wz, hwz⟩ : ∃ wz, wz = (w.alloc (.cells #[.int .u64 row, .int .u64 xmin, .int .u64 xmax, .int .i64 ((pn : Int) - 1), .int .i64 ((sn : Int) - 1), .slice (some ⟨b, o, none⟩) data.length cap] 147)).alloc (.cells (blkA 30 (fun _ => 0)) 5) := ⟨_, rfl⟩
 obtain ⟨t, ht⟩ : ∃ t, t = w.heap.size := ⟨_, rfl⟩
 have hsz : wz.heap.size = t + 2 := by subst hwz; subst ht; simp
 have hT : wz.heap[t]? = some (.cells #[.int .u64 row, .int .u64 xmin, .int .u64 xmax, .int .i64 ((pn : Int) - 1), .int .i64 ((sn : Int) - 1), .slice (some ⟨b, o, none⟩) data.length cap] 147 (0, 0)) := by
  subst hwz; subst ht; exact block_alloc (heap_new1 w _) _
 have hB : By wz (t + 1) 5 30 (fun _ => 0) := ⟨fun _ => (by decide : (0 : Nat) < 256), by subst hwz; subst ht; have := heap_new1 (w.alloc (.cells #[.int .u64 row, .int .u64 xmin, .int .u64 xmax, .int .i64 ((pn : Int) - 1), .int .i64 ((sn : Int) - 1), .slice (some ⟨b, o, none⟩) data.length cap] 147)) (.cells (blkA 30 (fun _ => 0)) 5); simpa using this⟩
 have hal : Below w.heap.size w wz := by subst hwz; exact ((Below.refl _ _).alloc (Nat.le_refl _) _).alloc (by simp) _
 have HWZ := Lib.hid hwz; have HT := Lib.hid ht; have HB := Lib.hid hB; have HZ := Lib.hid hsz; have HC := Lib.hid hc
 clear hB hsz hc hwz ht
 go_enter Tryz.func413, Tryz.ntmps413
 go_wp2_with fail
 rw [← HWZ.out, ← HT.out]
 have c0 := cell_of_block hT (i := 0) rfl
 go_still_tail 4, (by kernel_rfl)
 change wpList _ _ _ _ _ wz.drew
 go_wp2_with fail
 refine (put_at HB.out.drew 0 8 _ row (by decide) (by decide) (by decide) (by omega)).mono ?_
 rintro r w1 ⟨rfl, b1, u1⟩
 have q1 : Upd (fun q => q = t + 1) wz w1 := (Upd.of_drewN 1).trans u1
 have c1 := cell_of_block (q1.heap hT (by omega)) (i := 1) rfl
 have B1 := Lib.hid b1; clear b1 u1 c0
 go_wp2_with fail
 go_still_tail 4, (by kernel_rfl)
 change wpList _ _ _ _ _ w1.drew
 go_wp2_with fail
 refine (put_at B1.out.drew 8 8 _ xmin (by decide) (by decide) (by decide) (by omega)).mono ?_
 rintro r w2 ⟨rfl, b2, u2⟩
 have q2 : Upd (fun q => q = t + 1) wz w2 := (q1.drewN 1).trans u2
 have c2 := cell_of_block (q2.heap hT (by omega)) (i := 2) rfl
 have B2 := Lib.hid b2; clear b2 u2 c1
 go_wp2_with fail
 go_still_tail 4, (by kernel_rfl)
 change wpList _ _ _ _ _ w2.drew
 go_wp2_with fail
 refine (put_at B2.out.drew 16 8 _ xmax (by decide) (by decide) (by decide) (by omega)).mono ?_
 rintro r w3 ⟨rfl, b3, u3⟩
 have q3 : Upd (fun q => q = t + 1) wz w3 := (q2.drewN 1).trans u3
 have c3 := cell_of_block (q3.heap hT (by omega)) (i := 3) rfl
 have B3 := Lib.hid b3; clear b3 u3 c2
 go_wp2_with fail
 go_still_tail 7, (by kernel_rfl)
 change wpList _ _ _ _ _ w3.drew
 go_wp2_with fail
 refine (put_at B3.out.drew 24 4 _ pn (by decide) (by decide) (by decide) (by omega)).mono ?_
 rintro r w4 ⟨rfl, b4, u4⟩
 have q4 : Upd (fun q => q = t + 1) wz w4 := (q3.drewN 1).trans u4
 have c4 := cell_of_block (q4.heap hT (by omega)) (i := 4) rfl
 have B4 := Lib.hid b4; clear b4 u4 c3
 go_wp2_with fail
 go_still_tail 7, (by kernel_rfl)
 change wpList _ _ _ _ _ w4.drew
 go_wp2_with fail
 refine (put_at B4.out.drew 28 2 _ sn (by decide) (by decide) (by decide) (by omega)).mono ?_
 rintro r w5 ⟨rfl, b5, u5⟩
 have q5 : Upd (fun q => q = t + 1) wz w5 := (q4.drewN 1).trans u5
 have c5 := cell_of_block (q5.heap hT (by omega)) (i := 5) rfl
 have hown := By.row b5 (by decide) w.heap.size (by rw [← HT.out]; omega)
 rw [rd_head] at hown
 have hb5 : Below w.heap.size w w5 := Upd.below (S := fun b => w.heap.size ≤ b) ((Upd.of_below hal (fun b _ h => h)).trans (q5.mono (fun b _ e => by have := HT.out; omega))) (Nat.le_refl _) (fun b hb e => absurd hb (Nat.not_lt_of_le e))
 have hcs : ∀ j u, (u8l data)[j]? = some u → w5.cell? ((⟨b, o, none⟩ : Addr).add j) = some u := fun j u hj => by
  rw [add_atn]
  simp only [u8l, List.getElem?_map] at hj
  cases hx : data[j]? with
  | none => rw [hx] at hj; cases hj
  | some x =>
   rw [hx] at hj
   rw [← Option.some.inj hj]
   exact keeper hb5 (HC.out.2 j x hx)
 have HOWN := Lib.hid hown; have HCS := Lib.hid hcs
 have hl2 : (u8l data).length = data.length * 1 := by simp
 have HL := Lib.hid hl2
 have hz5 := hb5.size
 obtain ⟨i0, hi, hz0, hz1, hz2⟩ := info_parts Tryz.info5
 clear b5 u5 c4 hown hcs hl2
 go_wp2_with (at_builtin; refine wpList_append_mine rfl (.tmp 36) (.tmp 38) 23 rfl w.heap.size 5 i0 (.int .u8 0) 1 1 Tryz.underlying23 hi hz0 hz1 hz2 rfl (by decide) _ _ _ rfl HOWN.out ⟨b, o, none⟩ data.length cap (u8l data) rfl HL.out HCS.out (u8l_one _) ?c3 ?c4 ?c5 ?_)
 case c3 => unfold maxLen; omega
 case c4 => omega
 case c5 => exact hz5
 intro v' w6 hown' hupd hnew
 have hb6 : Below w.heap.size w w6 := Upd.below (S := fun b => w.heap.size ≤ b) ((Upd.of_below hb5 (fun b _ h => h)).trans (hupd.mono (fun b _ e => (World.ownsRow.lt HOWN.out b e).1))) (Nat.le_refl _) (fun b hb e => absurd hb (Nat.not_lt_of_le e))
 rw [← u8l_append] at hown'
 have hpk : leB 8 row ++ (leB 8 xmin ++ (leB 8 xmax ++ (leB 4 pn ++ leB 2 sn))) ++ data = packV ⟨row, xmin, xmax, (pn : Int) - 1, (sn : Int) - 1, data⟩ := by
  simp [packV, head]
 rw [hpk] at hown'
 have hpl := packV_lt (v := ⟨row, xmin, xmax, (pn : Int) - 1, (sn : Int) - 1, data⟩) ⟨k1, k2, k3, k4, k5, k6, k7⟩
 go_wp2_with fail
 go_ret
 exact ⟨_, rfl, Bs.of_row hown' (by simp; omega) hpl, fun g hg => (World.ownsRow.lt hown' g hg).1, hb6⟩

theorem rd_parts {f : Nat → Nat} {o : Nat} {v : Ver} (h : rd f o (30 + v.data.length) = packV v) :
   rd f o 8 = leB 8 v.row ∧ rd f (o + 8) 8 = leB 8 v.xmin ∧ rd f (o + 16) 8 = leB 8 v.xmax ∧ rd f (o + 24) 4 = leB 4 (v.pg + 1).toNat ∧ rd f (o + 28) 2 = leB 2 (v.sl + 1).toNat ∧ rd f (o + 30) v.data.length = v.data := by
 rw [show 30 + v.data.length = 8 + (8 + (8 + (4 + (2 + v.data.length)))) by omega, rd_append, rd_append, rd_append, rd_append, rd_append] at h
 have p : packV v = leB 8 v.row ++ (leB 8 v.xmin ++ (leB 8 v.xmax ++ (leB 4 (v.pg + 1).toNat ++ (leB 2 (v.sl + 1).toNat ++ v.data)))) := by simp [packV, head]
 rw [p] at h
 obtain ⟨h1, h⟩ := app_eq h (by simp)
 obtain ⟨h2, h⟩ := app_eq h (by simp)
 obtain ⟨h3, h⟩ := app_eq h (by simp)
 obtain ⟨h4, h⟩ := app_eq h (by simp)
 obtain ⟨h5, h6⟩ := app_eq h (by simp)
 exact ⟨h1, h2, h3, h4, h5, h6⟩
theorem By.bs {b T n o cap : Nat} {f : Nat → Nat} {l : List Nat} (h : By w b T n f) (h1 : 1 ≤ l.length) (ho : o + l.length ≤ n) (hr : rd f o l.length = l) (hcap : l.length ≤ cap) : Bs w (.slice (some ⟨b, o, none⟩) l.length cap) l := by
 have hg : ∀ (i x : Nat), l[i]? = some x → f (o + i) = x := fun i x hx => by
  have hi := (List.getElem?_eq_some_iff.1 hx).1
  rw [← hr, rd_get _ _ _ _ hi] at hx; exact Option.some.inj hx
 refine ⟨h1, fun x hx => ?_, b, o, cap, rfl, h.lt, hcap, fun i x hx => ?_⟩
 · obtain ⟨i, hi, rfl⟩ := List.getElem_of_mem hx
   rw [← hg i _ (List.getElem?_eq_getElem hi)]; exact h.1 _
 · have hi := (List.getElem?_eq_some_iff.1 hx).1
   rw [← hg i x hx]; exact h.cell _ (by omega)

set_option maxHeartbeats 4000000 in
theorem unpack_at {b T n o cap : Nat} {f : Nat → Nat} (h : By w b T n f) (hv : VerOk v) (ho : o + (30 + v.data.length) ≤ n) (hcap : 30 + v.data.length ≤ cap) (hr : rd f o (30 + v.data.length) = packV v) :
    Calls Tryz.prog 135 #[.slice (some ⟨b, o, none⟩) (30 + v.data.length : Nat) cap] w fun r w' => ∃ d, r = .returned (verT v d) ∧ Bs w' d v.data ∧ (∀ g, d.ownBlock = some g → w.heap.size ≤ g) ∧ Below w.heap.size w w' := by
 obtain ⟨k1, k2, k3, k4, k5, k6, k7⟩ := hv
 obtain ⟨r1, r2, r3, r4, r5, r6⟩ := rd_parts hr
 obtain ⟨row, xmin, xmax, pg, sl, data⟩ := v
 unfold verT tup
 simp only at k1 k2 k3 k4 k5 k6 k7 r1 r2 r3 r4 r5 r6 ho hcap ⊢
 obtain ⟨pn, rfl, hpn⟩ : ∃ n : Nat, pg = (n : Int) - 1 ∧ n ≤ 65536 := ⟨(pg + 1).toNat, by unfold FarOk at k4; omega, by unfold FarOk at k4; omega⟩
 obtain ⟨sn, rfl, hsn⟩ : ∃ n : Nat, sl = (n : Int) - 1 ∧ n ≤ 65535 := ⟨(sl + 1).toNat, by unfold FarOk at k4; omega, by unfold FarOk at k4; omega⟩
 have e4 : ((pn : Int) - 1 + 1).toNat = pn := by omega
 have e5 : ((sn : Int) - 1 + 1).toNat = sn := by omega
 rw [e4] at r4; rw [e5] at r5
 have num : ∀ (a k m c : Nat), rd f a k = leB k m → m < 256 ^ k → k ≤ 8 → a + k ≤ n → ∀ z : World, By z b T n f → Calls Tryz.prog 210 #[.slice (some ⟨b, a, none⟩) k c] z fun e w' => e = .returned (.int .u64 (m : Int)) ∧ w' = z := fun a k m c e hm hk ha z hz => by
  have := num_at hz a k c hk ha
  rw [e, numL_leB k m hm] at this; exact this
 have NUM := Lib.hid num
 have R1 := Lib.hid r1; have R2 := Lib.hid r2; have R3 := Lib.hid r3; have R4 := Lib.hid r4; have R5 := Lib.hid r5; have R6 := Lib.hid r6
 have HBY := Lib.hid h
 clear num r1 r2 r3 r4 r5 r6 h hr e4 e5
 obtain ⟨wz, hwz⟩ : ∃ wz, wz = w.alloc (.cells #[.int .u64 0, .int .u64 0, .int .u64 0, .int .i64 0, .int .i64 0, .slice none 0 0] 147) := ⟨_, rfl⟩
 obtain ⟨t, ht⟩ : ∃ t, t = w.heap.size := ⟨_, rfl⟩
 have hal : Below w.heap.size w wz := by subst hwz; exact (Below.refl _ _).alloc (Nat.le_refl _) _
 have hsz : wz.heap.size = t + 1 := by subst hwz; subst ht; simp
 have hT : wz.heap[t]? = some (.cells #[.int .u64 0, .int .u64 0, .int .u64 0, .int .i64 0, .int .i64 0, .slice none 0 0] 147 (0, 0)) := by subst hwz; subst ht; exact heap_new1 w _
 have hby : By wz.drew b T n f := (HBY.out.same hal).drew
 have hbs := By.bs (cap := cap - 30) hby k7 (o := o + 30) (by omega) R6.out (by omega)
 have hb0 : Below wz.heap.size wz wz.drew := ⟨rfl, rfl, rfl, Nat.le_refl _, fun _ _ => rfl⟩
 have HW := Lib.hid hby; have HBS := Lib.hid hbs; have HT := Lib.hid ht; have HWZ := Lib.hid hwz; have HTB := Lib.hid hT
 have hlen : data.length ≤ 100000 := by omega
 have H1 := Lib.hid fun c => NUM.out o 8 row c R1.out (by omega) (by decide) (by omega) _ hby
 have H2 := Lib.hid fun c => NUM.out (o + 8) 8 xmin c R2.out (by omega) (by decide) (by omega) _ hby
 have H3 := Lib.hid fun c => NUM.out (o + 16) 8 xmax c R3.out (by omega) (by decide) (by omega) _ hby
 have H4 := Lib.hid fun c => NUM.out (o + 24) 4 pn c R4.out (by omega) (by decide) (by omega) _ hby
 have H5 := Lib.hid fun c => NUM.out (o + 28) 2 sn c R5.out (by omega) (by decide) (by omega) _ hby
 obtain ⟨N, hN⟩ : ∃ N, N = 30 + data.length := ⟨_, rfl⟩
 rw [← hN]
 have hdl : data.length = N - 30 := by omega
 have hbs2 : Bs wz.drew (.slice (some ⟨b, o + 30, none⟩) (N - 30) (cap - 30)) data := by rw [← hdl]; exact HBS.out
 have HC := Lib.hid (bclone_at hbs2 hlen)
 have c8 : (8 : Int) ≤ cap := by omega
 have c16 : (16 : Int) ≤ cap := by omega
 have c24 : (24 : Int) ≤ cap := by omega
 have c28 : (28 : Int) ≤ cap := by omega
 have c30 : (30 : Int) ≤ cap := by omega
 have e8 : ¬ cap = 8 := by omega
 have e16 : ¬ cap = 16 := by omega
 have e24 : ¬ cap = 24 := by omega
 have e28 : ¬ cap = 28 := by omega
 have e30 : ¬ cap = 30 := by omega
 have wp0 : IntKind.i64.wrap (pn : Int) = pn := IntWalk.i64_in _ (by omega)
 have wp1 : IntKind.i64.wrap ((pn : Int) - 1) = (pn : Int) - 1 := IntWalk.i64_in _ (by omega)
 have ws0 : IntKind.i64.wrap (sn : Int) = sn := IntWalk.i64_in _ (by omega)
 have ws1 : IntKind.i64.wrap ((sn : Int) - 1) = (sn : Int) - 1 := IntWalk.i64_in _ (by omega)
 have n30 : (30 : Int) ≤ N := by omega
 have nc : (N : Int) ≤ cap := by omega
 clear HBS hbs2 hN hdl ho hcap
 clear hby hbs hwz ht hT
 go_enter Tryz.func135, Tryz.ntmps135
 go_wp2_with fail
 rw [← HWZ.out, ← HT.out]
 go_region_held3 (fun _ => True) (exact trivial)
  (first | (go_at_call 210; (with_reducible refine (H1.out _).mono ?_); rintro e w1 ⟨rfl, rfl⟩) | (go_at_call 210; (with_reducible refine (H2.out _).mono ?_); rintro e w1 ⟨rfl, rfl⟩) | (go_at_call 210; (with_reducible refine (H3.out _).mono ?_); rintro e w1 ⟨rfl, rfl⟩) | (go_at_call 210; (with_reducible refine (H4.out _).mono ?_); rintro e w1 ⟨rfl, rfl⟩) | (go_at_call 210; (with_reducible refine (H5.out _).mono ?_); rintro e w1 ⟨rfl, rfl⟩) | (go_at_call 208; (with_reducible refine HC.out.mono ?_); rintro e w1 ⟨x, rfl, x1, x2, x3, x4⟩; have X1 := Lib.hid x1; have X2 := Lib.hid x2; obtain ⟨_, _, xb, xo, xc, rfl, _, _⟩ := x1; clear x2 x3; have hH1 := (Upd.same (S := fun _ => False) x4).heap HTB.out id; have z0 : w1.cell? ⟨t, 0, none⟩ = some (.int .u64 0) := cell_of_block hH1 rfl; have y0 : w1.frozen? ⟨t, 0, none⟩ = false := free_of_block hH1; have z1 : w1.cell? ⟨t, 1, none⟩ = some (.int .u64 0) := cell_of_block hH1 rfl; have y1 : w1.frozen? ⟨t, 1, none⟩ = false := free_of_block hH1; have z2 : w1.cell? ⟨t, 2, none⟩ = some (.int .u64 0) := cell_of_block hH1 rfl; have y2 : w1.frozen? ⟨t, 2, none⟩ = false := free_of_block hH1; have z3 : w1.cell? ⟨t, 3, none⟩ = some (.int .i64 0) := cell_of_block hH1 rfl; have y3 : w1.frozen? ⟨t, 3, none⟩ = false := free_of_block hH1; have z4 : w1.cell? ⟨t, 4, none⟩ = some (.int .i64 0) := cell_of_block hH1 rfl; have y4 : w1.frozen? ⟨t, 4, none⟩ = false := free_of_block hH1; have z5 : w1.cell? ⟨t, 5, none⟩ = some (.slice none 0 0) := cell_of_block hH1 rfl; have y5 : w1.frozen? ⟨t, 5, none⟩ = false := free_of_block hH1; have hb1 := hb0.trans (x4.mono hb0.size)))
 have hH6 := set6_heap hH1 (.int .u64 row) (.int .u64 xmin) (.int .u64 xmax) (.int .i64 ((pn : Int) - 1)) (.int .i64 ((sn : Int) - 1)) (.slice (some ⟨xb, xo, none⟩) data.length xc)
 have hU6 := set6_upd (Upd.refl (fun g => g = t) w1) (b := t) (fun _ => rfl) (.int .u64 row) (.int .u64 xmin) (.int .u64 xmax) (.int .i64 ((pn : Int) - 1)) (.int .i64 ((sn : Int) - 1)) (.slice (some ⟨xb, xo, none⟩) data.length xc)
 clear z0 z1 z2 z3 z4 z5 y0 y1 y2 y3 y4 y5
 have j0 := cell_of_block hH6 (i := 0) rfl
 have j1 := cell_of_block hH6 (i := 1) rfl
 have j2 := cell_of_block hH6 (i := 2) rfl
 have j3 := cell_of_block hH6 (i := 3) rfl
 have j4 := cell_of_block hH6 (i := 4) rfl
 have j5 := cell_of_block hH6 (i := 5) rfl
 have hbw : Below w.heap.size w (set6 w1 t (.int .u64 row) (.int .u64 xmin) (.int .u64 xmax) (.int .i64 ((pn : Int) - 1)) (.int .i64 ((sn : Int) - 1)) (.slice (some ⟨xb, xo, none⟩) data.length xc)) :=
  hal.trans ((hb1.mono hal.size).trans (hU6.below (Nat.le_trans hal.size hb1.size) (fun g hg e => by have := HT.out; omega)))
 have hbx : Bs (set6 w1 t (.int .u64 row) (.int .u64 xmin) (.int .u64 xmax) (.int .i64 ((pn : Int) - 1)) (.int .i64 ((sn : Int) - 1)) (.slice (some ⟨xb, xo, none⟩) data.length xc)) (.slice (some ⟨xb, xo, none⟩) data.length xc) data :=
  X1.out.upd hU6 (fun b' o' n' c' e => by cases e; have := X2.out _ rfl; have h5 : wz.heap.size ≤ xb := this; omega)
 change Exit.then _ _ _ _ (set6 w1 t (.int .u64 row) (.int .u64 xmin) (.int .u64 xmax) (.int .i64 ((pn : Int) - 1)) (.int .i64 ((sn : Int) - 1)) (.slice (some ⟨xb, xo, none⟩) data.length xc))
 generalize (set6 w1 t (.int .u64 row) (.int .u64 xmin) (.int .u64 xmax) (.int .i64 ((pn : Int) - 1)) (.int .i64 ((sn : Int) - 1)) (.slice (some ⟨xb, xo, none⟩) data.length xc)) = w6 at *
 go_wp2_with fail
 refine bodyPost_ret (v := tup row ((pn : Int) - 1) ((sn : Int) - 1) (.slice (some ⟨xb, xo, none⟩) data.length xc) xmin xmax) (by simp [results, Tryz.results135, go_sem, tup, j0, j1, j2, j3, j4, j5]) rfl ⟨_, rfl, hbx, fun g hg => ?_, hbw⟩
 exact Nat.le_trans hal.size (X2.out g hg)
end
end Go.Proofs.YtnkjnclpakfgnaaGreatDoor
namespace Go.Proofs.YtnkjnclpakfgnaaGreatDoor
open Go.RowKit
set_option maxRecDepth 100000

theorem blkA_spl (n : Nat) (f : Nat → Nat) (o : Nat) (l : List Nat) (h : o + l.length ≤ n) : ((blkA n f).toList.take o ++ u8l l ++ (blkA n f).toList.drop (o + (u8l l).length)).toArray = blkA n (spl f o l) := by
 apply Array.ext_getElem?
 intro k
 have hb : ∀ k, (blkA n f).toList[k]? = if k < n then some (.int .u8 (f k : Int)) else none := fun k => by
  split
  · rename_i hk; rw [Array.getElem?_toList, blkA_get _ _ _ hk]
  · rw [Array.getElem?_toList, Array.getElem?_eq_none (by rw [blkA_size]; omega)]
 have hlen : ((blkA n f).toList.take o).length = o := by simp [blkA_size]; omega
 rw [List.getElem?_toArray]
 by_cases hk : k < n
 · rw [blkA_get _ _ _ hk]
   by_cases h1 : k < o
   · rw [List.append_assoc, List.getElem?_append_left (by omega), List.getElem?_take, if_pos h1, hb, if_pos hk, spl_out (by omega)]
   · by_cases h2 : k < o + l.length
     · rw [List.getElem?_append_left (by simp [hlen]; omega), List.getElem?_append_right (by omega), hlen, u8l_get (x := l[k - o]) (List.getElem?_eq_getElem (by omega))]
       have := spl_in (f := f) (a := o) (l := l) (i := k - o) (by omega)
       rw [show o + (k - o) = k by omega] at this; rw [this]
     · rw [List.getElem?_append_right (by simp [hlen]; omega), List.getElem?_drop, spl_out (by omega), List.length_append, hlen, u8l_length, show o + l.length + (k - (o + l.length)) = k by omega, hb, if_pos hk]
 · rw [Array.getElem?_eq_none (by rw [blkA_size]; omega), List.getElem?_eq_none (by simp [blkA_size]; omega)]

section
variable {w w' : World} {b T n : Nat} {f : Nat → Nat}
theorem By.splR (h : By w b T n f) {l : List Nat} {o : Nat} (hl : ∀ x ∈ l, x < 256) : By (w.setRow b (blkA n (spl f o l))) b T n (spl f o l) ∧ Upd (fun q => q = b) w (w.setRow b (blkA n (spl f o l))) :=
 ⟨⟨spl_lt h.1 hl _, setRow_heap w b _ _ T _ h.2⟩, ⟨rfl, rfl, rfl, by simp [World.setRow], fun k _ hne => setRow_other w b k _ (fun e => hne e)⟩⟩

theorem wpList_copy_by {ops : Array Oper} {rest : List Oper} {o : Oper} {a : Act} {Q : Exit → Act → World → Prop} (hgd : o.guard = none) (d s : Operand)
    (ho : o.op = .call { callee := .builtin .copy, args := #[d, s], argTypes := #[23, 23] }) (off dLen dCap : Nat) (v : Value) (l : List Nat) (hd : a.eval d = .slice (some ⟨b, off, none⟩) dLen dCap) (hs : a.eval s = v)
    (hB : By w b T n f) (hv : Bs w v l) (hl : l.length ≤ dLen) (hfit : off + l.length ≤ n)
    (h : ∀ w', By w' b T n (spl f off l) → Upd (fun q => q = b) w w' → wpList Tryz.prog ops Q rest (a.put o.dst (goInt l.length)) w') :
    wpList Tryz.prog ops Q (o :: rest) a w := by
 obtain ⟨h1, h2, sb, so, sc, rfl, h3, h4⟩ := hv
 have hcs : ∀ j u, (u8l l)[j]? = some u → w.cell? ((⟨sb, so, none⟩ : Addr).add j) = some u := fun j u hj => by
  rw [add_atn]
  simp only [u8l, List.getElem?_map] at hj
  cases hx : l[j]? with
  | none => rw [hx] at hj; cases hj
  | some x => rw [hx] at hj; rw [← Option.some.inj hj]; exact h4.2 j x hx
 have k := wpList_copy_own (P := Tryz.prog) (w := w) (ops := ops) (rest := rest) (Q := Q) hgd d s 23 23 ho 5 Tryz.underlying23 (by kernel_rfl) b off dLen dCap ⟨sb, so, none⟩ l.length sc hd hs (blkA n f) T hB.2 (u8l l) (by rw [u8l_length]; exact (Nat.min_eq_left hl).symm) hcs (by rw [blkA_size, u8l_length]; exact hfit) (u8l_one l)
 refine k ?_
 rw [← List.append_assoc, blkA_spl n f off l hfit, u8l_length]
 obtain ⟨p1, p2⟩ := hB.splR (l := l) (o := off) h2
 exact h _ p1 p2

theorem By.clr (h : By w b T n f) (o : Nat) : ∀ m : Nat, o + m ≤ n → By (w.setCells b o (List.replicate m (.int .u8 0))) b T n (spl f o (zeros m)) ∧ Upd (fun q => q = b) w (w.setCells b o (List.replicate m (.int .u8 0))) := by
 intro m
 induction m generalizing w f o with
 | zero => intro _; exact ⟨by rw [show zeros 0 = [] from rfl, spl_nil]; exact h, Upd.refl _ _⟩
 | succ m ih =>
  intro hm
  have h0 := h.set o 0 (by decide)
  obtain ⟨h1, u1⟩ := ih (o := o + 1) h0 (by omega)
  rw [List.replicate_succ]
  refine ⟨?_, ((Upd.refl (fun q => q = b) w).setCell (a := ⟨b, o, none⟩) _ (fun _ => rfl)).trans u1⟩
  have e : spl (fun k => if k = o then 0 else f k) (o + 1) (zeros m) = spl f o (zeros (m + 1)) := by
   funext k
   unfold spl
   simp only [zeros_length]
   by_cases e : k = o
   · subst e; rw [if_neg (by omega), if_pos (by omega)]; simp [zeros]
   · by_cases e2 : o + 1 ≤ k ∧ k < o + 1 + m
     · rw [if_pos e2, if_pos (by omega)]; simp [zeros, List.getD_eq_getElem?_getD, show k - (o + 1) < m by omega, show k - o < m + 1 by omega]
     · rw [if_neg e2, if_neg e, if_neg (by omega)]
  rw [e] at h1; exact h1

theorem run_clear_by (h : By w b T n f) (o m c : Nat) (hm : o + m ≤ n) (ty : TypeId) :
    (Builtin.clear_ #[23] ty #[.slice (some ⟨b, o, none⟩) m c]).run Tryz.prog w = .ok (.tuple #[]) (w.setCells b o (List.replicate m (.int .u8 0))) := by
 by_cases h0 : m = 0
 · subst h0
   simp [Builtin.clear_, run_underlying Tryz.underlying23, World.setCells]
 · exact Lib.run_clear_slice w 23 5 ty (.int .u8 0) Tryz.underlying23 (fun w => by kernel_rfl) rfl rfl b o m c (by omega) (fun j hj => by rw [h.cell _ (by omega)]; rfl) (fun j _ => h.free _)
end
end Go.Proofs.YtnkjnclpakfgnaaGreatDoor
namespace Go.Proofs.YtnkjnclpakfgnaaGreatDoor
open Go.RowKit
set_option maxRecDepth 100000
section
variable {w w' : World} {p : Nat} {f : Nat → Nat} {S : List (Option Ver)}

theorem far_at {pg sl : Int} (h : FarOk pg sl) (w : World) : Calls Tryz.prog 379 #[.agg #[.int .i64 pg, .int .i64 sl]] w fun e w' => e = .returned (.bool false) ∧ Below w.heap.size w w' := by
 have hal : Below w.heap.size w (w.alloc (.cells #[.int .i64 pg, .int .i64 sl] 124)) := (Below.refl _ _).alloc (Nat.le_refl _) _
 rcases h with ⟨rfl, rfl⟩ | ⟨h1, h2, h3, h4⟩
 · go_enter Tryz.func379, Tryz.ntmps379
   go_wp2_with fail
   go_ret
   exact ⟨rfl, hal⟩
 · have d1 : (pg == -1) = false := by rw [beq_eq_false_iff_ne]; omega
   have d2 : (sl == -1) = false := by rw [beq_eq_false_iff_ne]; omega
   have d3 : decide (pg < 0) = false := by simp; omega
   have d4 : decide (65536 ≤ pg) = false := by simp; omega
   have d5 : decide (sl < 0) = false := by simp; omega
   have d6 : decide (65535 ≤ sl) = false := by simp; omega
   go_enter Tryz.func379, Tryz.ntmps379
   go_wp2_with fail
   go_ret
   exact ⟨rfl, hal⟩

theorem pright_at {v : Ver} (hv : VerOk v) {a : Option Addr} {cap : Nat} (w : World) : Calls Tryz.prog 412 #[verT v (.slice a v.data.length cap)] w fun e w' => e = .returned (.bool true) ∧ Below w.heap.size w w' := by
 obtain ⟨k1, k2, k3, k4, k5, k6, k7⟩ := hv
 obtain ⟨row, xmin, xmax, pg, sl, data⟩ := v
 unfold verT tup
 simp only at k1 k2 k3 k4 k5 k6 k7 ⊢
 have hal : Below w.heap.size w (w.alloc (.cells #[.int .u64 row, .int .u64 xmin, .int .u64 xmax, .int .i64 pg, .int .i64 sl, .slice a data.length cap] 147)) := (Below.refl _ _).alloc (Nat.le_refl _) _
 have hf := Lib.hid (far_at k4 (w.alloc (.cells #[.int .u64 row, .int .u64 xmin, .int .u64 xmax, .int .i64 pg, .int .i64 sl, .slice a data.length cap] 147)))
 obtain ⟨n, hn⟩ : ∃ n, n = data.length := ⟨_, rfl⟩
 rw [← hn] at hf hal k5 ⊢
 clear k4 k6 k7 hn
 have d1 : decide ((row : Int) ≤ 1099511627776) = true := by simp; omega
 have d2 : decide ((xmin : Int) ≤ 1099511627776) = true := by simp; omega
 have d3 : decide ((xmax : Int) ≤ 1099511627776) = true := by simp; omega
 have d4 : decide ((n : Int) ≤ 200) = true := by simp; omega
 have key : ∀ w1, Below (w.alloc (.cells #[.int .u64 row, .int .u64 xmin, .int .u64 xmax, .int .i64 pg, .int .i64 sl, .slice a n cap] 147)).heap.size (w.alloc (.cells #[.int .u64 row, .int .u64 xmin, .int .u64 xmax, .int .i64 pg, .int .i64 sl, .slice a n cap] 147)) w1 → w1.cell? ⟨w.heap.size, 5, none⟩ = some (.slice a n cap) := fun w1 h => keeper h (cell_of_block (heap_new1 w _) rfl)
 have KEY := Lib.hid key
 clear key
 rcases Nat.lt_or_ge row xmin with c1 | c1
 · have e1 : (row : Int) < xmin := by omega
   rcases Nat.lt_or_ge xmin xmax with c2 | c2
   · have e2 : (xmin : Int) < xmax := by omega
     clear c1 c2 k1 k2 k3
     go_enter Tryz.func412, Tryz.ntmps412
     go_wp2_with (go_at_call 379; (with_reducible refine hf.out.mono ?_); rintro r w1 ⟨rfl, hk1⟩; have k5 := KEY.out w1 hk1)
     go_ret
     exact ⟨rfl, hal.trans (hk1.mono hal.size)⟩
   · have e2 : ¬ (xmin : Int) < xmax := by omega
     clear c1 c2 k1 k2 k3
     go_enter Tryz.func412, Tryz.ntmps412
     go_wp2_with (go_at_call 379; (with_reducible refine hf.out.mono ?_); rintro r w1 ⟨rfl, hk1⟩; have k5 := KEY.out w1 hk1)
     go_ret
     exact ⟨rfl, hal.trans (hk1.mono hal.size)⟩
 · have e1 : ¬ (row : Int) < xmin := by omega
   rcases Nat.lt_or_ge row xmax with c2 | c2
   · have e2 : (row : Int) < xmax := by omega
     clear c1 c2 k1 k2 k3
     go_enter Tryz.func412, Tryz.ntmps412
     go_wp2_with (go_at_call 379; (with_reducible refine hf.out.mono ?_); rintro r w1 ⟨rfl, hk1⟩; have k5 := KEY.out w1 hk1)
     go_ret
     exact ⟨rfl, hal.trans (hk1.mono hal.size)⟩
   · have e2 : ¬ (row : Int) < xmax := by omega
     clear c1 c2 k1 k2 k3
     go_enter Tryz.func412, Tryz.ntmps412
     go_wp2_with (go_at_call 379; (with_reducible refine hf.out.mono ?_); rintro r w1 ⟨rfl, hk1⟩; have k5 := KEY.out w1 hk1)
     go_ret
     exact ⟨rfl, hal.trans (hk1.mono hal.size)⟩

theorem slots_at (h : Pg w p f) : Calls Tryz.prog 105 #[.pointer (some ⟨p, 0, none⟩)] w fun e w' => e = .returned (.int .i64 (w16 f 0 : Int)) ∧ w' = w := by
 have H := Lib.hid h; clear h
 go_enter Tryz.func105, Tryz.ntmps105
 go_wp2_with (go_at_call 161; (with_reducible refine (count_at H.out).mono ?_); rintro e w1 ⟨rfl, rfl⟩)
 go_ret
 exact ⟨rfl, rfl⟩

theorem pnew_at (w : World) : Calls Tryz.prog 330 #[] w fun e w' => e = .returned (.pointer (some ⟨w.heap.size, 0, none⟩)) ∧ (∃ g, Pg w' w.heap.size g ∧ PageIs g []) ∧ Below w.heap.size w w' := by
 have hz : Tryz.zeroCells395 = blkA 512 (fun _ => 0) := by kernel_rfl
 have hP : Pg (w.alloc (.cells Tryz.zeroCells395 395)) w.heap.size (fun _ => 0) := ⟨fun _ => (by decide : (0 : Nat) < 256), by rw [hz]; exact heap_new1 w _⟩
 have hal : Below w.heap.size w (w.alloc (.cells Tryz.zeroCells395 395)) := (Below.refl _ _).alloc (Nat.le_refl _) _
 have H := Lib.hid (set_page hP 0 512 (by decide) (by decide))
 clear hz hP
 go_enter Tryz.func330, Tryz.ntmps330
 go_wp2_with fail
 refine H.out.mono ?_
 rintro r w1 ⟨rfl, h1, u1⟩
 go_wp2_with fail
 go_ret
 exact ⟨rfl, ⟨_, h1, PageIs.new _⟩, hal.trans (u1.below hal.size (fun b hb e => by omega))⟩

/-- A slot where nothing is. -/
def NoSlot (S : List (Option Ver)) (i : Int) : Prop := i < 0 ∨ S.length ≤ i ∨ ∃ k : Nat, i = k ∧ S[k]? = some none
def I64 (i : Int) : Prop := -9223372036854775808 ≤ i ∧ i ≤ 9223372036854775807
theorem bytes_no (h : Pg w p f) (hS : PageIs f S) {i : Int} (hi : NoSlot S i) (hm : I64 i) : Calls Tryz.prog 134 #[.pointer (some ⟨p, 0, none⟩), .int .i64 i] w fun e w' => e = .returned (.slice none 0 0) ∧ ∃ n, w' = w.drewN n := by
 rcases hi with hi | hi | ⟨k, rfl, hk⟩
 · exact bytes_out h hS i (.inl hi) hm
 · exact bytes_out h hS i (.inr hi) hm
 · exact bytes_in h hS k hk

set_option maxHeartbeats 1000000 in
theorem get_none (h : Pg w p f) (hS : PageIs f S) {i : Int} (hi : NoSlot S i) (hm : I64 i) :
    Calls Tryz.prog 89 #[.pointer (some ⟨p, 0, none⟩), .int .i64 i] w fun e w' => e = .returned (.tuple #[tup 0 0 0 (.slice none 0 0) 0 0, .bool false]) ∧ Below w.heap.size w w' := by
 obtain ⟨wz, hwz⟩ : ∃ wz, wz = w.alloc (.cells #[.int .u64 0, .int .u64 0, .int .u64 0, .int .i64 0, .int .i64 0, .slice none 0 0] 147) := ⟨_, rfl⟩
 obtain ⟨t, ht⟩ : ∃ t, t = w.heap.size := ⟨_, rfl⟩
 have hal : Below w.heap.size w wz := by subst hwz; exact (Below.refl _ _).alloc (Nat.le_refl _) _
 have hT : wz.heap[t]? = some (.cells #[.int .u64 0, .int .u64 0, .int .u64 0, .int .i64 0, .int .i64 0, .slice none 0 0] 147 (0, 0)) := by subst hwz; subst ht; exact heap_new1 w _
 have H := Lib.hid (bytes_no (By.same h hal) hS hi hm)
 have HT := Lib.hid ht; have HWZ := Lib.hid hwz; have HTB := Lib.hid hT
 have heq := eql_nil
 clear hwz ht hT hi h hm
 go_enter Tryz.func89, Tryz.ntmps89
 go_wp2_with fail
 rw [← HWZ.out, ← HT.out]
 (with_reducible refine H.out.mono ?_)
 rintro r w1 ⟨rfl, n, hw1⟩
 have hH1 : w1.heap[t]? = some (.cells #[.int .u64 0, .int .u64 0, .int .u64 0, .int .i64 0, .int .i64 0, .slice none 0 0] 147 (0, 0)) := by rw [hw1]; exact HTB.out
 have hb1 : Below wz.heap.size wz w1 := by rw [hw1]; exact below_drewN
 clear hw1
 have z0 := cell_of_block hH1 (i := 0) rfl; have z1 := cell_of_block hH1 (i := 1) rfl; have z2 := cell_of_block hH1 (i := 2) rfl
 have z3 := cell_of_block hH1 (i := 3) rfl; have z4 := cell_of_block hH1 (i := 4) rfl; have z5 := cell_of_block hH1 (i := 5) rfl
 have y0 : w1.frozen? ⟨t, 0, none⟩ = false := free_of_block hH1; have y1 : w1.frozen? ⟨t, 1, none⟩ = false := free_of_block hH1; have y2 : w1.frozen? ⟨t, 2, none⟩ = false := free_of_block hH1
 have y3 : w1.frozen? ⟨t, 3, none⟩ = false := free_of_block hH1; have y4 : w1.frozen? ⟨t, 4, none⟩ = false := free_of_block hH1; have y5 : w1.frozen? ⟨t, 5, none⟩ = false := free_of_block hH1
 have hH6 := set6_heap hH1 (.int .u64 0) (.int .u64 0) (.int .u64 0) (.int .i64 0) (.int .i64 0) (.slice none 0 0)
 have hU6 := set6_upd (Upd.refl (fun g => g = t) w1) (b := t) (fun _ => rfl) (.int .u64 0) (.int .u64 0) (.int .u64 0) (.int .i64 0) (.int .i64 0) (.slice none 0 0)
 have hbw : Below w.heap.size w (set6 w1 t (.int .u64 0) (.int .u64 0) (.int .u64 0) (.int .i64 0) (.int .i64 0) (.slice none 0 0)) := hal.trans ((hb1.mono hal.size).trans (hU6.below (Nat.le_trans hal.size hb1.size) (fun g hg e => by have := HT.out; omega)))
 have j0 := cell_of_block hH6 (i := 0) rfl; have j1 := cell_of_block hH6 (i := 1) rfl; have j2 := cell_of_block hH6 (i := 2) rfl
 have j3 := cell_of_block hH6 (i := 3) rfl; have j4 := cell_of_block hH6 (i := 4) rfl; have j5 := cell_of_block hH6 (i := 5) rfl
 go_wp2_with fail
 clear z0 z1 z2 z3 z4 z5 y0 y1 y2 y3 y4 y5
 change bodyPost _ _ _ _ _ (set6 w1 t (.int .u64 0) (.int .u64 0) (.int .u64 0) (.int .i64 0) (.int .i64 0) (.slice none 0 0))
 generalize (set6 w1 t (.int .u64 0) (.int .u64 0) (.int .u64 0) (.int .i64 0) (.int .i64 0) (.slice none 0 0)) = w6 at *
 exact bodyPost_ret (v := .tuple #[tup 0 0 0 (.slice none 0 0) 0 0, .bool false]) (by simp [results, Tryz.results89, go_sem, tup, j0, j1, j2, j3, j4, j5]) rfl ⟨rfl, hbw⟩

set_option maxHeartbeats 1000000 in
theorem get_some (h : Pg w p f) (hS : PageIs f S) (i : Nat) {v : Ver} (hi : S[i]? = some (some v)) :
    Calls Tryz.prog 89 #[.pointer (some ⟨p, 0, none⟩), .int .i64 (i : Int)] w fun e w' => ∃ d, e = .returned (.tuple #[verT v d, .bool true]) ∧ Bs w' d v.data ∧ (∀ g, d.ownBlock = some g → w.heap.size ≤ g) ∧ Below w.heap.size w w' := by
 obtain ⟨wz, hwz⟩ : ∃ wz, wz = w.alloc (.cells #[.int .u64 0, .int .u64 0, .int .u64 0, .int .i64 0, .int .i64 0, .slice none 0 0] 147) := ⟨_, rfl⟩
 obtain ⟨t, ht⟩ : ∃ t, t = w.heap.size := ⟨_, rfl⟩
 have hal : Below w.heap.size w wz := by subst hwz; exact (Below.refl _ _).alloc (Nat.le_refl _) _
 have hT : wz.heap[t]? = some (.cells #[.int .u64 0, .int .u64 0, .int .u64 0, .int .i64 0, .int .i64 0, .slice none 0 0] 147 (0, 0)) := by subst hwz; subst ht; exact heap_new1 w _
 have hp := By.same h hal
 have hb := bytes_in hp hS i hi
 obtain ⟨k1, k2, k3, k4, k5⟩ := hS.yes i v hi
 have hlt := (List.getElem?_eq_some_iff.1 hi).1
 have hlo := hS.lo
 have hu : ∀ n, Calls Tryz.prog 135 #[.slice (some ⟨p, w16 f (4 + 4 * i), none⟩) (30 + v.data.length) (512 - w16 f (4 + 4 * i))] (wz.drewN n) _ := fun n => unpack_at (By.drewN hp n) k1 k4 (cap := 512 - w16 f (4 + 4 * i)) (by omega) k5
 simp only [verV] at hb
 have H := Lib.hid hb; have HU := Lib.hid hu
 have HT := Lib.hid ht; have HWZ := Lib.hid hwz; have HTB := Lib.hid hT
 have heq := eql_some
 clear hwz ht hT hi h hb hu hp k2 k3 k4 k5 hlo hlt
 go_enter Tryz.func89, Tryz.ntmps89
 go_wp2_with fail
 rw [← HWZ.out, ← HT.out]
 (with_reducible refine H.out.mono ?_)
 rintro r w1 ⟨rfl, n, rfl⟩
 go_wp2_with fail
 (with_reducible refine (HU.out n).mono ?_)
 rintro r w1 ⟨d, rfl, hd, hdn, hb0⟩
 have HD := Lib.hid hd; have HDN := Lib.hid hdn; obtain ⟨_, _, xb, xo, xc, rfl, _, _⟩ := hd; clear hdn
 have hb1 : Below wz.heap.size wz w1 := below_drewN.trans hb0
 have hH1 := (Upd.same (S := fun _ => False) hb1).heap HTB.out id
 unfold verT tup
 have z0 := cell_of_block hH1 (i := 0) rfl; have y0 : w1.frozen? ⟨t, 0, none⟩ = false := free_of_block hH1
 have z1 := cell_of_block hH1 (i := 1) rfl; have y1 : w1.frozen? ⟨t, 1, none⟩ = false := free_of_block hH1
 have z2 := cell_of_block hH1 (i := 2) rfl; have y2 : w1.frozen? ⟨t, 2, none⟩ = false := free_of_block hH1
 have z3 := cell_of_block hH1 (i := 3) rfl; have y3 : w1.frozen? ⟨t, 3, none⟩ = false := free_of_block hH1
 have z4 := cell_of_block hH1 (i := 4) rfl; have y4 : w1.frozen? ⟨t, 4, none⟩ = false := free_of_block hH1
 have z5 := cell_of_block hH1 (i := 5) rfl; have y5 : w1.frozen? ⟨t, 5, none⟩ = false := free_of_block hH1
 have hH6 := set6_heap hH1 (.int .u64 v.row) (.int .u64 v.xmin) (.int .u64 v.xmax) (.int .i64 v.pg) (.int .i64 v.sl) (.slice (some ⟨xb, xo, none⟩) v.data.length xc)
 have hU6 := set6_upd (Upd.refl (fun g => g = t) w1) (b := t) (fun _ => rfl) (.int .u64 v.row) (.int .u64 v.xmin) (.int .u64 v.xmax) (.int .i64 v.pg) (.int .i64 v.sl) (.slice (some ⟨xb, xo, none⟩) v.data.length xc)
 have j0 := cell_of_block hH6 (i := 0) rfl; have j1 := cell_of_block hH6 (i := 1) rfl; have j2 := cell_of_block hH6 (i := 2) rfl; have j3 := cell_of_block hH6 (i := 3) rfl; have j4 := cell_of_block hH6 (i := 4) rfl; have j5 := cell_of_block hH6 (i := 5) rfl
 have hbw : Below w.heap.size w (set6 w1 t (.int .u64 v.row) (.int .u64 v.xmin) (.int .u64 v.xmax) (.int .i64 v.pg) (.int .i64 v.sl) (.slice (some ⟨xb, xo, none⟩) v.data.length xc)) := hal.trans ((hb1.mono hal.size).trans (hU6.below (Nat.le_trans hal.size hb1.size) (fun g hg e => by have := HT.out; omega)))
 have hbx : Bs (set6 w1 t (.int .u64 v.row) (.int .u64 v.xmin) (.int .u64 v.xmax) (.int .i64 v.pg) (.int .i64 v.sl) (.slice (some ⟨xb, xo, none⟩) v.data.length xc)) (.slice (some ⟨xb, xo, none⟩) v.data.length xc) v.data := HD.out.upd hU6 (fun b' o' n' c' e => by cases e; have h4 := HDN.out xb rfl; have h5 : wz.heap.size ≤ xb := h4; have h6 : t < wz.heap.size := lt_of_block HTB.out; omega)
 clear hb0
 go_wp2_with fail
 clear z0 y0 z1 y1 z2 y2 z3 y3 z4 y4 z5 y5
 change bodyPost _ _ _ _ _ (set6 w1 t (.int .u64 v.row) (.int .u64 v.xmin) (.int .u64 v.xmax) (.int .i64 v.pg) (.int .i64 v.sl) (.slice (some ⟨xb, xo, none⟩) v.data.length xc))
 generalize (set6 w1 t (.int .u64 v.row) (.int .u64 v.xmin) (.int .u64 v.xmax) (.int .i64 v.pg) (.int .i64 v.sl) (.slice (some ⟨xb, xo, none⟩) v.data.length xc)) = w6 at *
 exact bodyPost_ret (v := .tuple #[verT v (.slice (some ⟨xb, xo, none⟩) v.data.length xc), .bool true]) (by simp [results, Tryz.results89, go_sem, tup, verT, j0, j1, j2, j3, j4, j5]) rfl ⟨_, rfl, hbx, fun g hg => Nat.le_trans hal.size (HDN.out g hg), hbw⟩
end
end Go.Proofs.YtnkjnclpakfgnaaGreatDoor
