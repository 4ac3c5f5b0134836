/-
  THE LOG AND THE BOOK SIDE BY SIDE: colours: the log's blocks 1, the book's 2, snapshots' 9.
-/
import Derived.Test.YtdohkjpapmkhjaaCreate
namespace Go.Proofs.Ytdohkjpapmkhjaa
open Go.RowKit

structure Desk (w0 : World) (c : Nat → Nat) (w : World) (pl p : Nat) (L : List Nat) (tv iv : Value) (T : List (Nat × Ent × Value)) (I : List (Nat × Ent × Int)) (last : Int) : Prop where
  l : LogAt c 1 w pl 1 L
  b : BookAt c 2 w p tv iv T I last
  col : ∀ b, b < w0.heap.size → c b = 0
  below : Below w0.heap.size w0 w
/-- A snapshot's list, none of theirs. -/
def Own9 (c : Nat → Nat) (w : World) (rv : Value) (l : List Int) : Prop := Run w rv l ∧ ∀ g, rv.ownBlock = some g → c g = 9

section
variable {w0 : World} {c : Nat → Nat} {w w' : World} {pl p : Nat} {L L' : List Nat} {tv iv : Value} {T : List (Nat × Ent × Value)} {I : List (Nat × Ent × Int)} {last : Int} {rv : Value} {l : List Int}
theorem Desk.same (h : Desk w0 c w pl p L tv iv T I last) (u : Below w.heap.size w w') : Desk w0 c w' pl p L tv iv T I last := ⟨h.l.same u, h.b.same u, h.col, h.below.trans (u.mono h.below.size)⟩
theorem Desk.recol (h : Desk w0 c w pl p L tv iv T I last) {c' : Nat → Nat} (hold : ∀ b, b < w.heap.size → c' b = c b) : Desk w0 c' w pl p L tv iv T I last :=
  ⟨h.l.recol hold, h.b.recol hold, fun b hb => (hold b (Nat.lt_of_lt_of_le hb h.below.size)).trans (h.col b hb), h.below⟩
theorem Desk.log (h : Desk w0 c w pl p L tv iv T I last) (hl : LogAt c 1 w' pl 1 L') (u : Upd (fun b => c b = 1) w w') : Desk w0 c w' pl p L' tv iv T I last :=
  ⟨hl, h.b.upd u (fun b e e2 => by omega), h.col, h.below.trans (u.below h.below.size (fun b hb e => by have := h.col b hb; omega))⟩
theorem Own9.same (h : Own9 c w rv l) (u : Below w.heap.size w w') : Own9 c w' rv l := ⟨h.1.same u, h.2⟩
theorem Own9.recol (h : Own9 c w rv l) {c' : Nat → Nat} (hold : ∀ b, b < w.heap.size → c' b = c b) : Own9 c' w rv l := ⟨h.1, fun g hg => (hold g (h.1.lt g hg)).trans (h.2 g hg)⟩
theorem Own9.upd {i : Nat} (h : Own9 c w rv l) (u : Upd (fun b => c b = i) w w') (hi : i ≠ 9) : Own9 c w' rv l := ⟨h.1.upd u (fun b hb e => by have := h.2 b hb; omega), h.2⟩

/-- What a step of one colour does: c' is c on old blocks. -/
theorem desk_begin (h : Desk w0 c w pl p L tv iv T I last) (hf : 1 + (L.length : Int) ≤ 1099511627776) : Calls Try.prog 18 #[.pointer (some ⟨pl, 0, none⟩)] w fun e w' => e = .returned (.tuple #[.int .u64 (1 + L.length), .int .i64 0]) ∧
    Desk w0 (col c w.heap.size 1) w' pl p (L ++ [1]) tv iv T I last ∧ Upd (fun b => c b = 1) w w' := by
  refine (begin_at h.l hf).mono fun e w' ⟨h1, h2, h3⟩ => ?_
  have hold : ∀ b, b < w.heap.size → col c w.heap.size 1 b = c b := fun b hb => col_old hb
  exact ⟨h1, (h.recol hold).log h2 (h3.mono (fun b hb e => (hold b hb).trans e)), h3⟩
theorem desk_commit (h : Desk w0 c w pl p L tv iv T I last) (x : Int) : Calls Try.prog 23 #[.pointer (some ⟨pl, 0, none⟩), .int .u64 x] w fun e w' => e = .returned (.int .i64 (endErr 1 L x)) ∧ Desk w0 c w' pl p (ended 1 L x 2) tv iv T I last ∧ Upd (fun b => c b = 1) w w' := by
  refine (commit_at h.l x).mono fun e w' ⟨h1, h2, h3⟩ => ⟨h1, h.log h2 h3, h3⟩
theorem desk_abort (h : Desk w0 c w pl p L tv iv T I last) (x : Int) : Calls Try.prog 25 #[.pointer (some ⟨pl, 0, none⟩), .int .u64 x] w fun e w' => e = .returned (.int .i64 (endErr 1 L x)) ∧ Desk w0 c w' pl p (ended 1 L x 3) tv iv T I last ∧ Upd (fun b => c b = 1) w w' := by
  refine (abort_at h.l x).mono fun e w' ⟨h1, h2, h3⟩ => ⟨h1, h.log h2 h3, h3⟩
theorem desk_take (h : Desk w0 c w pl p L tv iv T I last) (x : Int) : Calls Try.prog 36 #[.pointer (some ⟨pl, 0, none⟩), .int .u64 x] w fun e w' => ∃ rv, e = .returned ((take 1 L x).val rv) ∧
    Own9 (col c w.heap.size 9) w' rv (take 1 L x).run ∧ Desk w0 (col c w.heap.size 9) w' pl p L tv iv T I last ∧ Below w.heap.size w w' := by
  refine (take_at h.l x).mono fun e w' ⟨rv, h1, h2, h3, h4⟩ => ⟨rv, h1, ⟨h2, fun g hg => col_new (h3 g hg)⟩, (h.recol (fun b hb => col_old hb)).same h4, h4⟩
theorem desk_create {cv : Value} (h : Desk w0 c w pl p L tv iv T I last) {s : Snp} (hr : Run w rv s.run) (name : ByteArray) (hsz : name.size ≤ 4611686018427387904) (hc : ColsAt w cv) (hn : isName name = true)
    (hE : takenE 1 L s name ((ents T I).map (·.2)) 0 = 0) (hT : T.length < 16) (hlast : last < 1099511627776) :
    Calls Try.prog 48 #[.pointer (some ⟨p, 0, none⟩), .pointer (some ⟨pl, 0, none⟩), s.val rv, .string name, cv] w fun r w' => r = .returned (.tuple #[.int .u64 (last + 1), .int .i64 0]) ∧
      (∃ v' bt cv', Desk w0 (col c w.heap.size 2) w' pl p L v' iv (T ++ [(bt, ⟨last + 1, name, s.own, 0⟩, cv')]) I (last + 1)) ∧ Upd (fun b => c b = 2) w w' := by
  refine (create_ok h.b h.l hr name hsz hc hn hE hT hlast).mono fun r w' ⟨h1, v', bt, cv', h2, h3⟩ => ⟨h1, ⟨v', bt, cv', ?_⟩, h3⟩
  have hold : ∀ b, b < w.heap.size → col c w.heap.size 2 b = c b := fun b hb => col_old hb
  have k := h.recol hold
  have u := h3.mono (T := fun b => col c w.heap.size 2 b = 2) (fun b hb e => (hold b hb).trans e)
  exact ⟨k.l.upd u (fun b e e2 => by omega), h2, k.col, k.below.trans (u.below k.below.size (fun b hb e => by have := k.col b hb; omega))⟩
end

def nameT : ByteArray := ⟨#[116]⟩
theorem isName_t : isName nameT = true := by decide +kernel

set_option maxHeartbeats 4000000 in
set_option maxRecDepth 100000 in
theorem awake_eleven (w : World) : Calls Try.prog 45 #[] w fun e w' => e = .returned (.bool true) ∧ Below w.heap.size w w' := by
  go_enter Try.func45, Try.ntmps45
  go_wp2_with fail
  refine (new_ok 1 w (by decide) (by decide) (fun _ => 0) 1).mono ?_
  rintro e w1 ⟨rfl, l1, b1⟩
  go_wp2_with fail
  refine (bnew_at w1 (col (fun _ => 0) w.heap.size 1) 2).mono ?_
  rintro e w2 ⟨rfl, k2, b2⟩
  have D2 : Desk w (col (col (fun _ => 0) w.heap.size 1) w1.heap.size 2) w2 w.heap.size w1.heap.size [] (.slice none 0 0) (.slice none 0 0) [] [] 0 :=
    ⟨(l1.recol (fun b hb => col_old hb)).same b2, k2, fun b hb => by rw [col_old (Nat.lt_of_lt_of_le hb b1.size), col_old hb], b1.trans (b2.mono b1.size)⟩
  clear l1 k2 b1 b2
  obtain ⟨pl, hpl⟩ : ∃ pl, pl = w.heap.size := ⟨_, rfl⟩
  obtain ⟨p, hp⟩ : ∃ p, p = w1.heap.size := ⟨_, rfl⟩
  obtain ⟨c2, hc2⟩ : ∃ c2, c2 = col (col (fun _ => 0) w.heap.size 1) w1.heap.size 2 := ⟨_, rfl⟩
  rw [← hc2] at D2
  rw [← hpl, ← hp] at D2
  rw [← hpl, ← hp]
  clear hc2 hpl hp
  go_wp2_with fail
  refine (desk_begin D2 (by decide)).mono ?_
  rintro e w3 ⟨rfl, D3, _⟩
  clear D2
  go_wp2_with fail
  refine (desk_begin D3 (by decide)).mono ?_
  rintro e w4 ⟨rfl, D4, _⟩
  clear D3
  obtain ⟨c4, D4⟩ : ∃ c4, Desk w c4 w4 pl p [1, 1] (.slice none 0 0) (.slice none 0 0) [] [] 0 := ⟨_, D4⟩
  go_wp2_with fail
  have e1 : Ytdohkjpapmkhjaa.take 1 [1, 1] 1 = ⟨1, 2, 3, [2]⟩ := rfl
  have e2 : Ytdohkjpapmkhjaa.take 1 [1, 1] 2 = ⟨2, 1, 3, [1]⟩ := rfl
  refine (desk_take D4 1).mono ?_
  rw [e1]
  rintro e w5 ⟨r1, rfl, O5, D5, _⟩
  clear D4 e1
  obtain ⟨ra1, rc1, hr1⟩ := ownsRow_slice O5.1.1
  subst hr1
  unfold Snp.val
  go_wp2_with fail
  refine (desk_take D5 2).mono ?_
  rw [e2]
  rintro e w6 ⟨r2, rfl, O6, D6, b6⟩
  have O56 := (O5.recol (c' := col (col c4 w4.heap.size 9) w5.heap.size 9) (fun b hb => col_old hb)).same b6
  clear D5 e2 O5 b6
  obtain ⟨ra2, rc2, hr2⟩ := ownsRow_slice O6.1.1
  subst hr2
  unfold Snp.val
  go_wp2_with fail
  obtain ⟨c6, hc6⟩ : ∃ c6, c6 = col (col c4 w4.heap.size 9) w5.heap.size 9 := ⟨_, rfl⟩
  rw [← hc6] at O6 D6 O56
  clear hc6
  have hal : Below w6.heap.size w6 ((w6.alloc (.cells #[.int .u64 1, .int .u64 2, .int .u64 3, .slice ra1 1 rc1] 66)).alloc (.cells #[.int .u64 2, .int .u64 1, .int .u64 3, .slice ra2 1 rc2] 66)) := ((Below.refl _ _).alloc (Nat.le_refl _) _).alloc (by simp) _
  have hA := block_alloc (heap_new1 w6 (.cells #[.int .u64 1, .int .u64 2, .int .u64 3, .slice ra1 1 rc1] 66)) (.cells #[.int .u64 2, .int .u64 1, .int .u64 3, .slice ra2 1 rc2] 66)
  have hB := heap_new2 w6 (.cells #[.int .u64 1, .int .u64 2, .int .u64 3, .slice ra1 1 rc1] 66) (.cells #[.int .u64 2, .int .u64 1, .int .u64 3, .slice ra2 1 rc2] 66)
  obtain ⟨w7, hw7⟩ : ∃ w7, w7 = ((w6.alloc (.cells #[.int .u64 1, .int .u64 2, .int .u64 3, .slice ra1 1 rc1] 66)).alloc (.cells #[.int .u64 2, .int .u64 1, .int .u64 3, .slice ra2 1 rc2] 66)) := ⟨_, rfl⟩
  obtain ⟨c7, hc7⟩ : ∃ c7, c7 = col c6 w6.heap.size 9 := ⟨_, rfl⟩
  rw [← hw7] at hal hA hB
  have D7 : Desk w c7 w7 pl p [1, 1] (.slice none 0 0) (.slice none 0 0) [] [] 0 := by rw [hc7]; exact (D6.recol (fun b hb => col_old hb)).same hal
  have O71 : Own9 c7 w7 (.slice ra1 1 rc1) [2] := by rw [hc7]; exact (O56.recol (fun b hb => col_old hb)).same hal
  have O72 : Own9 c7 w7 (.slice ra2 1 rc2) [1] := by rw [hc7]; exact (O6.recol (fun b hb => col_old hb)).same hal
  obtain ⟨q4, hq4⟩ : ∃ q4, q4 = w6.heap.size := ⟨_, rfl⟩
  obtain ⟨q5, hq5⟩ : ∃ q5, q5 = w6.heap.size + 1 := ⟨_, rfl⟩
  have hn4 : c7 q4 = 9 := by rw [hc7, hq4]; exact col_new (Nat.le_refl _)
  have hn5 : c7 q5 = 9 := by rw [hc7, hq5]; exact col_new (by omega)
  rw [← hq4] at hA
  rw [← hq5] at hB
  rw [← hw7, ← hq5, ← hq4]
  have a0 := cell_of_block hA (i := 0) rfl
  have a1 := cell_of_block hA (i := 1) rfl
  have a2 := cell_of_block hA (i := 2) rfl
  have a3 := cell_of_block hA (i := 3) rfl
  have x0 := cell_of_block hB (i := 0) rfl
  have x1 := cell_of_block hB (i := 1) rfl
  have x2 := cell_of_block hB (i := 2) rfl
  have x3 := cell_of_block hB (i := 3) rfl
  have hl5 := lt_of_block hB
  clear hw7 hc7 hq4 hq5 hA hB hal O6 D6 O56
  have t1 : takenE 1 [1, 1] ⟨1, 2, 3, [2]⟩ nameT [] 0 = 0 := rfl
  have HCR := Lib.hid (show ∀ w', Below w7.heap.size w7 w' → ∀ g, ColsAt w' (.slice (some ⟨g, 0, none⟩) 1 1) → Calls Try.prog 48 #[.pointer (some ⟨p, 0, none⟩), .pointer (some ⟨pl, 0, none⟩), .agg #[.int .u64 1, .int .u64 2, .int .u64 3, .slice ra1 1 rc1], .string { data := #[116] }, .slice (some ⟨g, 0, none⟩) 1 1] w' fun r w'' => r = .returned (.tuple #[.int .u64 1, .int .i64 0]) ∧
      (∃ c' v' bt cv', Desk w c' w'' pl p [1, 1] v' (.slice none 0 0) [(bt, ⟨1, nameT, 1, 0⟩, cv')] [] 1 ∧ ∀ b, b < w'.heap.size → c' b = c7 b) ∧ Upd (fun b => c7 b = 2) w' w'' from fun w' hb g hc => by
    refine (desk_create (s := ⟨1, 2, 3, [2]⟩) (D7.same hb) (O71.1.same hb) nameT (by decide) hc isName_t t1 (by decide) (by decide)).mono ?_
    rintro r w'' ⟨h1, ⟨v', bt, cv', h2⟩, h3⟩
    exact ⟨h1, ⟨_, v', bt, cv', h2, fun b hb => col_old hb⟩, h3⟩)
  clear t1
  have hC0 : Below w7.heap.size w7 w7.drew := below_drewN (n := 1)
  go_region_held3 (fun z => z.cell? ⟨q4, 0, none⟩ = some (.int .u64 1) ∧ z.cell? ⟨q4, 1, none⟩ = some (.int .u64 2) ∧ z.cell? ⟨q4, 2, none⟩ = some (.int .u64 3) ∧ z.cell? ⟨q4, 3, none⟩ = some (.slice ra1 1 rc1))
    (first | exact ⟨u78.cell a0 (by simp only [hn4]; decide), u78.cell a1 (by simp only [hn4]; decide), u78.cell a2 (by simp only [hn4]; decide), u78.cell a3 (by simp only [hn4]; decide)⟩ | exact ⟨keeper hC1 a0, keeper hC1 a1, keeper hC1 a2, keeper hC1 a3⟩ | exact ⟨keeper hC0 a0, keeper hC0 a1, keeper hC0 a2, keeper hC0 a3⟩)
    (first
      | (have _h := hC1; go_at_call 48; (with_reducible refine (HCR.out _ hC1 _ hcx).mono ?_); rintro e w8 ⟨rfl, ⟨c8, v8, b8, cv8, D8, hc8⟩, u8⟩; have u78 : Upd (fun b => c7 b = 2) w7 w8 := (Upd.same hC1).trans u8)
      | (go_at_call 49; (with_reducible refine (one_at _).mono ?_); rintro e wx ⟨gx, rfl, _, hcx, hkx⟩; have hC1 := hC0.trans (hkx.mono hC0.size)))
  have y0 := u78.cell x0 (by simp only [hn5]; decide)
  have y1 := u78.cell x1 (by simp only [hn5]; decide)
  have y2 := u78.cell x2 (by simp only [hn5]; decide)
  have y3 := u78.cell x3 (by simp only [hn5]; decide)
  have O82 := (O72.upd u78 (by decide)).1
  clear u8 hkx hC0 hC1 HCR a0 a1 a2 a3 x0 x1 x2 x3 O71 O72 D7
  have HC2 := Lib.hid (show ∀ w', Below w8.heap.size w8 w' → ∀ g, ColsAt w' (.slice (some ⟨g, 0, none⟩) 1 1) → Calls Try.prog 48 #[.pointer (some ⟨p, 0, none⟩), .pointer (some ⟨pl, 0, none⟩), .agg #[.int .u64 2, .int .u64 1, .int .u64 3, .slice ra2 1 rc2], .string { data := #[116] }, .slice (some ⟨g, 0, none⟩) 1 1] w' fun r w'' => r = .returned (.tuple #[.int .u64 0, .int .i64 11]) ∧ Below w'.heap.size w' w'' from fun w' hb g hc =>
    create_taken (s := ⟨2, 1, 3, [1]⟩) (D8.b.same hb) (D8.l.same hb) (O82.same hb) nameT (by decide) hc isName_t 11 (by show takenE 1 [1, 1] ⟨2, 1, 3, [1]⟩ nameT [⟨1, nameT, 1, 0⟩] 0 = 11; decide +kernel) (by decide))
  go_wp2_with fail
  have hE0 : Below w8.heap.size w8 w8.drew := below_drewN (n := 1)
  go_region_held3 (fun z => z.cell? ⟨q5, 0, none⟩ = some (.int .u64 2) ∧ z.cell? ⟨q5, 1, none⟩ = some (.int .u64 1) ∧ z.cell? ⟨q5, 2, none⟩ = some (.int .u64 3) ∧ z.cell? ⟨q5, 3, none⟩ = some (.slice ra2 1 rc2))
    (first | exact ⟨keeper hE2 y0, keeper hE2 y1, keeper hE2 y2, keeper hE2 y3⟩ | exact ⟨keeper hE1 y0, keeper hE1 y1, keeper hE1 y2, keeper hE1 y3⟩ | exact ⟨keeper hE0 y0, keeper hE0 y1, keeper hE0 y2, keeper hE0 y3⟩)
    (first
      | (have _h := hE1; go_at_call 48; (with_reducible refine (HC2.out _ hE1 _ hcy).mono ?_); rintro e w9 ⟨rfl, hk9⟩; have hE2 := hE1.trans (hk9.mono hE1.size))
      | (go_at_call 49; (with_reducible refine (one_at _).mono ?_); rintro e wy ⟨gy, rfl, _, hcy, hky⟩; have hE1 := hE0.trans (hky.mono hE0.size)))
  have D9 := D8.same hE2
  clear D8 HC2 hE0 hE1 hE2 hky hk9 y0 y1 y2 y3 O82 hcx hcy
  go_wp2_with fail
  refine (desk_commit D9 1).mono ?_
  rintro e w10 ⟨rfl, D10, _⟩
  have D10 : Desk w c8 w10 pl p [2, 1] v8 (.slice none 0 0) [(b8, ⟨1, nameT, 1, 0⟩, cv8)] [] 1 := D10
  clear D9
  go_wp2_with fail
  refine (desk_begin D10 (by decide)).mono ?_
  rintro e w11 ⟨rfl, D11, _⟩
  obtain ⟨c11, D11⟩ : ∃ c11, Desk w c11 w11 pl p [2, 1, 1] v8 (.slice none 0 0) [(b8, ⟨1, nameT, 1, 0⟩, cv8)] [] 1 := ⟨_, D11⟩
  clear D10
  have e3 : Ytdohkjpapmkhjaa.take 1 [2, 1, 1] 3 = ⟨3, 2, 4, [2]⟩ := rfl
  go_wp2_with fail
  refine (desk_take D11 3).mono ?_
  rw [e3]
  rintro e w12 ⟨r3, rfl, O12, D12, _⟩
  clear D11 e3
  obtain ⟨ra3, rc3, hr3⟩ := ownsRow_slice O12.1.1
  subst hr3
  unfold Snp.val
  go_wp2_with fail
  refine (one_at _).mono ?_
  rintro e w13 ⟨g3, rfl, _, hc13, hk13⟩
  have HC3 : Calls Try.prog 48 #[.pointer (some ⟨p, 0, none⟩), .pointer (some ⟨pl, 0, none⟩), .agg #[.int .u64 3, .int .u64 2, .int .u64 4, .slice ra3 1 rc3], .string { data := #[116] }, .slice (some ⟨g3, 0, none⟩) 1 1] w13 fun r w'' => r = .returned (.tuple #[.int .u64 0, .int .i64 7]) ∧ Below w13.heap.size w13 w'' :=
    create_taken (s := ⟨3, 2, 4, [2]⟩) (D12.b.same hk13) (D12.l.same hk13) (O12.1.same hk13) nameT (by decide) hc13 isName_t 7 (by show takenE 1 [2, 1, 1] ⟨3, 2, 4, [2]⟩ nameT [⟨1, nameT, 1, 0⟩] 0 = 7; decide +kernel) (by decide)
  have HC3 := Lib.hid HC3
  have D13 := D12.same hk13
  clear D12 O12
  go_wp2_with fail
  refine HC3.out.mono ?_
  rintro e w14 ⟨rfl, hk14⟩
  go_wp2_with fail
  go_ret
  exact ⟨rfl, (D13.same hk14).below⟩
end Go.Proofs.Ytdohkjpapmkhjaa
