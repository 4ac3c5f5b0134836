/-
  SCRIPTS OF TRANSACTIONS AND SNAPSHOTS (lapidarylaw10's 'play'): whatever the script, both sides are alike, and each snapshot fits what became of the log.
-/
import Derived.Test.YtdohkjpapmkhjaaPair
namespace Go.Proofs.Ytdohkjpapmkhjaa
open Go.RowKit

set_option maxHeartbeats 8000000 in
set_option maxRecDepth 100000 in
theorem play_any (most : Int) (a : Option Addr) (len cap : Nat) (w : World) (hlen : len ≤ 9223372036854775807) (hm0 : 0 ≤ most) (hm : most ≤ 1000) (hs : Script2 w a len) :
    Calls Try.prog 32 #[.slice a len cap, .int .i64 most] w fun e w' => ∃ pb pl px c sv tv L S, e = .returned (.tuple #[.pointer (some ⟨pb, 0, none⟩), .bool true]) ∧ Pair w pb pl px c w' sv tv L L S ∧ L.length ≤ 1000 ∧ S.length ≤ 1000 := by
  have HS := Lib.hid hs; clear hs
  go_enter Try.func32, Try.ntmps32
  go_wp2_with fail
  refine (new_ok 1 _ (by decide) (by decide) (col (fun _ => 0) w.heap.size 5) 1).mono ?_
  rintro e w1 ⟨rfl, l1, b1⟩
  have e1 : (w.alloc (.cells #[.pointer none, .pointer none, .slice none 0 0, .slice none 0 0] 64)).heap.size = w.heap.size + 1 := by simp
  rw [e1] at l1 b1
  rw [e1]
  clear e1
  have z1 := b1.size
  have c0 := (Upd.of_below (S := fun b => w.heap.size + 1 ≤ b) b1 (fun b _ h => h)).heap (heap_new1 w _) (by omega)
  have z1' : w.heap.size + 1 ≤ w1.heap.size := by simpa using z1
  have k0 := cell_of_block c0 (i := 0) rfl
  have q0 : w1.frozen? ⟨w.heap.size, 0, none⟩ = false := free_of_block c0
  go_wp2_with fail
  refine (rnew_ok 1 _ (by decide) (by decide) (col (col (fun _ => 0) w.heap.size 5) (w.heap.size + 1) 1) 2).mono ?_
  rintro e w2 ⟨rfl, x2, b2⟩
  have e2 : (w1.setCell ⟨w.heap.size, 0, none⟩ (.pointer (some ⟨w.heap.size + 1, 0, none⟩))).heap.size = w1.heap.size := by simp
  rw [e2] at x2 b2
  rw [e2]
  clear e2
  have c1 := (Upd.of_below (S := fun b => w1.heap.size ≤ b) b2 (fun b _ h => h)).heap (block_setCell c0 _) (by omega)
  have k1 := cell_of_block c1 (i := 1) rfl
  have q1 : w2.frozen? ⟨w.heap.size, 1, none⟩ = false := free_of_block c1
  have hbw : Below w.heap.size w (w2.setCell ⟨w.heap.size, 1, none⟩ (.pointer (some ⟨w1.heap.size, 0, none⟩))) := by
    have t0 : Below w.heap.size w (w.alloc (.cells #[.pointer none, .pointer none, .slice none 0 0, .slice none 0 0] 64)) := (Below.refl _ _).alloc (Nat.le_refl _) _
    exact (((t0.trans (b1.mono (by omega))).setCell (Nat.le_refl _) _).trans (b2.mono (by omega))).setCell (Nat.le_refl _) _
  have hP : Pair w w.heap.size (w.heap.size + 1) w1.heap.size (col (col (col (fun _ => 0) w.heap.size 5) (w.heap.size + 1) 1) w1.heap.size 2)
      (w2.setCell ⟨w.heap.size, 1, none⟩ (.pointer (some ⟨w1.heap.size, 0, none⟩))) (.slice none 0 0) (.slice none 0 0) [] [] [] := by
    refine ⟨?_, ?_, ?_, Snaps.nil _ _ _, RSnaps.nil _ _ _, ?_, (fun z hz => by cases hz), ?_, hbw⟩
    · rw [block_setCell c1 _]; rfl
    · have u1 : Upd (fun b => b = w.heap.size ∨ w1.heap.size ≤ b) w1 (w2.setCell ⟨w.heap.size, 1, none⟩ (.pointer (some ⟨w1.heap.size, 0, none⟩))) := by
        refine Upd.setCell (Upd.trans (Upd.setCell (Upd.refl _ w1) _ (fun _ => .inl rfl)) (Upd.of_below b2 (fun b _ h => .inr h))) _ (fun _ => .inl rfl)
      refine (l1.recol (c' := col (col (col (fun _ => 0) w.heap.size 5) (w.heap.size + 1) 1) w1.heap.size 2) (fun b hb => col_old hb)).upd u1 ?_
      rintro b e (e2 | e2)
      · subst e2; rw [col_old (by omega), col_old (by omega), col_new (by omega)] at e; exact absurd e (by decide)
      · rw [col_new e2] at e; exact absurd e (by decide)
    · refine x2.upd (S := fun b => b = w.heap.size) (Upd.setCell (Upd.refl _ w2) _ (fun _ => rfl)) ?_
      intro b e e2
      subst e2; rw [col_old (by omega), col_old (by omega), col_new (by omega)] at e; exact absurd e (by decide)
    · rw [col_old (by omega), col_old (by omega), col_new (by omega)]
    · intro b hb; rw [col_old (by omega), col_old (by omega), col_old hb]
  clear k0 q0 c0 l1 b1 x2 b2 c1 hbw z1
  go_wp2_with fail
  generalize hpl : w.heap.size + 1 = pl at *
  generalize hpx : w1.heap.size = px at *
  clear hpl hpx k1 q1
  generalize hw4 : w2.setCell ⟨w.heap.size, 1, none⟩ (.pointer (some ⟨px, 0, none⟩)) = w4 at *
  clear hw4
  go_loopw [30] (fun i wr => ∃ (j : Nat) (c : Nat → Nat) (sv tv : Value) (L : List Nat) (S : List (Snp × Value × Value)), j ≤ len ∧ i = .int .i64 j ∧ Pair w w.heap.size pl px c wr sv tv L L S ∧ L.length ≤ j ∧ S.length ≤ j ∧ L.length ≤ 1000 ∧ S.length ≤ 1000) (fun i _ => len - (intOf i).toNat)
  case atStart => exact ⟨0, _, _, _, _, _, Nat.zero_le _, rfl, hP, Nat.le_refl _, Nat.le_refl _, by decide, by decide⟩
  case round =>
    clear hP
    obtain ⟨j, c, sv, tv, L, S, hj, rfl, hP, hL, hS, hL1, hS1⟩ := hrel
    by_cases hlt : j < len
    · obtain ⟨b, off, d, x, ha, hb, e0, e1, d0, d1, x0, x1⟩ := HS.out j hlt
      subst ha
      have e0' := (hP.below.cell (p := ⟨b, off + j * 2, none⟩) hb).trans e0
      have e1' := (hP.below.cell (p := ⟨b, off + j * 2 + 1, none⟩) hb).trans e1
      clear e0 e1
      by_cases hmo : (j : Int) < most
      · have hPa := hP.alloc (.cells #[.int .u8 d, .int .u64 x] 70)
        have kl := cell_of_block hPa.blk (i := 0) rfl
        have kx := cell_of_block hPa.blk (i := 1) rfl
        by_cases h5 : (d % 7 == 5) = true ∨ (d % 7 == 6) = true
        · have h2a : (d % 7 == 2) = false := by
            rcases h5 with h | h <;> (rw [beq_iff_eq] at h; rw [beq_eq_false_iff_ne]; omega)
          have h3a : (d % 7 == 3) = false := by
            rcases h5 with h | h <;> (rw [beq_iff_eq] at h; rw [beq_eq_false_iff_ne]; omega)
          have h4a : (d % 7 == 4) = false := by
            rcases h5 with h | h <;> (rw [beq_iff_eq] at h; rw [beq_eq_false_iff_ne]; omega)
          have h56 : (d % 7 == 5) = true ∨ (d % 7 == 5) = false ∧ (d % 7 == 6) = true := by
            cases hq : (d % 7 == 5) with
            | true => exact .inl rfl
            | false => rw [hq] at h5; exact .inr ⟨rfl, h5.resolve_left (by decide)⟩
          clear h5
          have HPd : Hid (Pair w w.heap.size pl px c (wr.alloc (.cells #[.int .u8 d, .int .u64 x] 70)).drew sv tv L L S) := hPa.drewN 1
          rcases h56 with h5 | ⟨h5, h6⟩
          all_goals
            go_wp2_with fail
            clear e0' e1'
            refine wp_region_held_drew (S := fun w' => w'.cell? ⟨w.heap.size, 0, none⟩ = some (.pointer (some ⟨pl, 0, none⟩)) ∧ w'.cell? ⟨w.heap.size, 1, none⟩ = some (.pointer (some ⟨px, 0, none⟩))) (by kernel_rfl) ⟨kl, kx⟩ (fun hH => ?_)
            clear kl kx
            refine wpAnyH_take (i := 0) (oi := _) (v := ?_) rfl (by kernel_rfl) (by kernel_rfl) (by kernel_rfl) (fun _ _ _ h => h) (Or.inl ⟨by rfl, ?_⟩) hH ?_
            rotate_left 1
            · intro w0 hSw; simp [go_sem]; with_reducible rfl
            simp only [Act.put, List.getElem_toArray, List.getElem_cons_zero, List.setIfInBounds_toArray, List.set_cons_zero, List.set_cons_succ]
            refine wpAnyH_take (i := 1) (oi := _) (v := ?_) rfl (by kernel_rfl) (by kernel_rfl) (by kernel_rfl) (fun _ _ _ h => h) (Or.inl ⟨by rfl, ?_⟩) hH ?_
            rotate_left 1
            · intro w0 hSw; simp [go_sem]; with_reducible rfl
            simp only [Act.put, List.getElem_toArray, List.getElem_cons_zero, List.getElem_cons_succ, List.setIfInBounds_toArray, List.set_cons_zero, List.set_cons_succ]
            refine wpAnyH_take (i := 2) (oi := _) (v := ?_) rfl (by kernel_rfl) (by kernel_rfl) (by kernel_rfl) (fun _ _ _ h => h) (Or.inl ⟨by rfl, ?_⟩) hH ?_
            rotate_left 1
            · intro w0 hSw; simp [go_sem]; with_reducible rfl
            simp only [Act.put, List.getElem_toArray, List.getElem_cons_zero, List.getElem_cons_succ, List.setIfInBounds_toArray, List.set_cons_zero, List.set_cons_succ]
            refine wpAnyH_take (i := 3) (oi := _) (v := ?_) rfl (by kernel_rfl) (by kernel_rfl) (by kernel_rfl) (fun _ _ _ h => h) (Or.inl ⟨by rfl, ?_⟩) hH ?_
            rotate_left 1
            · intro w0 hSw; simp [go_sem, hSw]; with_reducible rfl
            simp only [Act.put, List.getElem_toArray, List.getElem_cons_zero, List.getElem_cons_succ, List.setIfInBounds_toArray, List.set_cons_zero, List.set_cons_succ]
            refine wpAnyH_take (i := 4) (oi := _) (v := ?_) rfl (by kernel_rfl) (by kernel_rfl) (by kernel_rfl) (fun _ _ _ h => h) (Or.inl ⟨by rfl, ?_⟩) hH ?_
            rotate_left 1
            · intro w0 hSw; simp [go_sem]; with_reducible rfl
            simp only [Act.put, List.getElem_toArray, List.getElem_cons_zero, List.getElem_cons_succ, List.setIfInBounds_toArray, List.set_cons_zero, List.set_cons_succ]
            refine wpAnyH_take (i := 6) (oi := _) (v := ?_) rfl (by kernel_rfl) (by kernel_rfl) (by kernel_rfl) (fun _ _ _ h => h) (Or.inl ⟨by rfl, ?_⟩) hH ?_
            rotate_left 1
            · intro w0 hSw; simp [go_sem]; with_reducible rfl
            simp only [Act.put, List.getElem_toArray, List.getElem_cons_zero, List.getElem_cons_succ, List.setIfInBounds_toArray, List.set_cons_zero, List.set_cons_succ]
            refine wpAnyH_take (i := 7) (oi := _) (v := ?_) rfl (by kernel_rfl) (by kernel_rfl) (by kernel_rfl) (fun _ _ _ h => h) (Or.inl ⟨by rfl, ?_⟩) hH ?_
            rotate_left 1
            · intro w0 hSw; simp [go_sem]; with_reducible rfl
            simp only [Act.put, List.getElem_toArray, List.getElem_cons_zero, List.getElem_cons_succ, List.setIfInBounds_toArray, List.set_cons_zero, List.set_cons_succ]
            refine wpAnyH_take (i := 8) (oi := _) (v := ?_) rfl (by kernel_rfl) (by kernel_rfl) (by kernel_rfl) (fun _ _ _ h => h) (Or.inl ⟨by rfl, ?_⟩) hH ?_
            rotate_left 1
            · intro w0 hSw; simp [go_sem]; with_reducible rfl
            simp only [Act.put, List.getElem_toArray, List.getElem_cons_zero, List.getElem_cons_succ, List.setIfInBounds_toArray, List.set_cons_zero, List.set_cons_succ]
            refine wpAnyH_take (i := 9) (oi := _) (v := ?_) rfl (by kernel_rfl) (by kernel_rfl) (by kernel_rfl) (fun _ _ _ h => h) (Or.inl ⟨by rfl, ?_⟩) hH ?_
            rotate_left 1
            · intro w0 hSw; simp [go_sem, hSw]; with_reducible rfl
            simp only [Act.put, List.getElem_toArray, List.getElem_cons_zero, List.getElem_cons_succ, List.setIfInBounds_toArray, List.set_cons_zero, List.set_cons_succ]
            refine wpAnyH_take (i := 10) (oi := _) (v := ?_) rfl (by kernel_rfl) (by kernel_rfl) (by kernel_rfl) (fun _ _ _ h => h) (Or.inl ⟨by rfl, ?_⟩) hH ?_
            rotate_left 1
            · intro w0 hSw; simp [go_sem]; with_reducible rfl
            simp only [Act.put, List.getElem_toArray, List.getElem_cons_zero, List.getElem_cons_succ, List.setIfInBounds_toArray, List.set_cons_zero, List.set_cons_succ]
            refine twin_region (own := x % 40) (fun b1 b2 b3 b4 b5 b6 => #[true, true, true, true, true, b1, true, true, true, true, true, b2, b3, b4, b5, b6]) ?_ ?_ ?_ ?_ ?_ ?_ ?_ rfl rfl rfl rfl rfl rfl rfl rfl rfl rfl rfl rfl rfl rfl rfl rfl rfl rfl rfl rfl rfl rfl rfl rfl HPd.out.l HPd.out.x ?_ ?_ ?_ ?_ ?_ ?_ ?_ _ ?_
            · exact fun _ _ _ _ _ => rfl
            · exact fun _ _ _ _ _ => rfl
            · exact fun _ _ _ _ _ => rfl
            · exact fun _ _ _ _ _ => rfl
            · exact fun _ _ _ _ _ => rfl
            · exact fun _ _ _ _ _ => rfl
            · intro b1 b2 b3 b4 b5 b6; cases b1 <;> cases b2 <;> cases b3 <;> cases b4 <;> cases b5 <;> cases b6 <;> kernel_rfl
            · simp [Act.eval]
            · simp [Act.eval]
            · simp [Act.eval]
            · simp [Act.eval]
            · simp
            rotate_left 2
            · simp
            · intro w' hb
              have hP2 := HPd.out.same hb
              exact ⟨cell_of_block hP2.blk (i := 0) rfl, cell_of_block hP2.blk (i := 1) rfl⟩
            · intro r1 r2 p q w' ht
              have HT := Lib.hid ht
              clear ht
              simp only [putQ, putO, Act.put, List.setIfInBounds_toArray, List.set_cons_zero, List.set_cons_succ]
              clear hH
              obtain ⟨⟨hr1, ⟨ra, rc, rfl⟩, hg1⟩, ⟨hr2, ⟨ra2, rc2, rfl⟩, hg2⟩, hrr, hp, hq, hbl⟩ := HT.out.facts
              have hP3 := HPd.out.same hbl
              have hp1 := lt_of_block hp
              have hq1 := lt_of_block hq
              have hc7 := cells7 hp hq
              simp only [cptr]
              have HT2 := Lib.hid hP3
              have hr1d : Run w'.drew _ _ := hr1.drewN 1
              have hr2d : Run w'.drew _ _ := hr2.drewN 1
              clear hP3
              go_wp2_with fail
              go_region_held3 (fun z => z.cell? ⟨p, 0, none⟩ = some (.int .u64 (x % 40)) ∧ z.cell? ⟨p, 1, none⟩ = some (.int .u64 (Ytdohkjpapmkhjaa.take 1 L (x % 40)).xmin) ∧ z.cell? ⟨p, 2, none⟩ = some (.int .u64 (1 + L.length)) ∧ z.cell? ⟨p, 3, none⟩ = some (.slice ra (Ytdohkjpapmkhjaa.take 1 L (x % 40)).run.length rc) ∧ 
                  z.cell? ⟨q, 0, none⟩ = some (.int .u64 (x % 40)) ∧ z.cell? ⟨q, 1, none⟩ = some (.int .u64 (1 + L.length)) ∧ z.cell? ⟨q, 2, none⟩ = some (.slice ra2 (Ytdohkjpapmkhjaa.take 1 L (x % 40)).run.length rc2))
                (first | exact hc7 | assumption | exact hS2)
                (first
                  | (go_at_call 61; (with_reducible refine (rleast_take (f := 1) (L := L) (own := x % 40) hr2d).mono ?_); rintro e wt ⟨rfl, hB⟩; have hS2 := below7 hB hp1 hq1 hc7; have hr1e := hr1d.same hB; have hr2e := hr2d.same hB)
                  | (go_at_call 29; (with_reducible refine (same_run hr1e hr2e).mono ?_); rintro e wu ⟨rfl, n3, rfl⟩))
              clear hc7
              have hpx := hp; have hqx := hq
              have hHT := HT.out.hp _ rfl
              have hHq := HT.out.hq _ rfl
              have hpW : (wt.drewN n3).drew.heap[p]? = _ := ((Upd.same (S := fun _ => False) hB).drewN (n3 + 1)).heap hp id
              have hqW : (wt.drewN n3).drew.heap[q]? = _ := ((Upd.same (S := fun _ => False) hB).drewN (n3 + 1)).heap hq id
              have hPW : Pair w w.heap.size pl px c (wt.drewN n3).drew sv tv L L S := ((HT2.out.drewN 1).same hB).drewN (n3 + 1)
              have hS7 := cells7 hpW hqW
              have kb2 := cell_of_block hPW.blk (i := 2) rfl
              have kb3 := cell_of_block hPW.blk (i := 3) rfl
              have hzz : w'.heap.size ≤ (wt.drewN n3).drew.heap.size := hB.size
              have HPW := Lib.hid hPW
              clear hPW
              clear hS2 hp hq hpx hqx
              have HpW := Lib.hid hpW; have HqW := Lib.hid hqW; have HHT := Lib.hid hHT; have HHq := Lib.hid hHq; clear hpW hqW hHT hHq
              go_wp2_with fail
              refine wp_region_held_drew (S := (fun z => z.cell? ⟨p, 0, none⟩ = some (.int .u64 (x % 40)) ∧ z.cell? ⟨p, 1, none⟩ = some (.int .u64 (Ytdohkjpapmkhjaa.take 1 L (x % 40)).xmin) ∧ z.cell? ⟨p, 2, none⟩ = some (.int .u64 (1 + L.length)) ∧ z.cell? ⟨p, 3, none⟩ = some (.slice ra (Ytdohkjpapmkhjaa.take 1 L (x % 40)).run.length rc) ∧ z.cell? ⟨q, 0, none⟩ = some (.int .u64 (x % 40)) ∧ z.cell? ⟨q, 1, none⟩ = some (.int .u64 (1 + L.length)) ∧ z.cell? ⟨q, 2, none⟩ = some (.slice ra2 (Ytdohkjpapmkhjaa.take 1 L (x % 40)).run.length rc2))) (by kernel_rfl) hS7 (fun hH => ?_)
              clear hS7
              refine wpAnyH_take (i := 0) (oi := _) (v := ?_) rfl (by kernel_rfl) (by kernel_rfl) (by kernel_rfl) (fun _ _ _ h => h) (Or.inl ⟨by rfl, ?_⟩) hH ?_
              rotate_left 1
              · intro w0 hSw; simp [go_sem]; with_reducible rfl
              simp only [Act.put, List.getElem_toArray, List.getElem_cons_zero, List.setIfInBounds_toArray, List.set_cons_zero, List.set_cons_succ]
              refine wpAnyH_take (i := 1) (oi := _) (v := ?_) rfl (by kernel_rfl) (by kernel_rfl) (by kernel_rfl) (fun _ _ _ h => h) (Or.inl ⟨by rfl, ?_⟩) hH ?_
              rotate_left 1
              · intro w0 hSw; simp [go_sem]; with_reducible rfl
              simp only [Act.put, List.getElem_toArray, List.getElem_cons_zero, List.getElem_cons_succ, List.setIfInBounds_toArray, List.set_cons_zero, List.set_cons_succ]
              refine wpAnyH_take (i := 2) (oi := _) (v := ?_) rfl (by kernel_rfl) (by kernel_rfl) (by kernel_rfl) (fun _ _ _ h => h) (Or.inl ⟨by rfl, ?_⟩) hH ?_
              rotate_left 1
              · intro w0 hSw; simp [go_sem]; with_reducible rfl
              simp only [Act.put, List.getElem_toArray, List.getElem_cons_zero, List.getElem_cons_succ, List.setIfInBounds_toArray, List.set_cons_zero, List.set_cons_succ]
              refine wpAnyH_take (i := 3) (oi := _) (v := ?_) rfl (by kernel_rfl) (by kernel_rfl) (by kernel_rfl) (fun _ _ _ h => h) (Or.inl ⟨by rfl, ?_⟩) hH ?_
              rotate_left 1
              · intro w0 hSw; simp [go_sem]; with_reducible rfl
              simp only [Act.put, List.getElem_toArray, List.getElem_cons_zero, List.getElem_cons_succ, List.setIfInBounds_toArray, List.set_cons_zero, List.set_cons_succ]
              refine wpAnyH_take (i := 4) (oi := _) (v := ?_) rfl (by kernel_rfl) (by kernel_rfl) (by kernel_rfl) (fun _ _ _ h => h) (Or.inl ⟨by rfl, ?_⟩) hH ?_
              rotate_left 1
              · intro w0 hSw; simp [go_sem]; with_reducible rfl
              simp only [Act.put, List.getElem_toArray, List.getElem_cons_zero, List.getElem_cons_succ, List.setIfInBounds_toArray, List.set_cons_zero, List.set_cons_succ]
              refine wpAnyH_take (i := 6) (oi := _) (v := ?_) rfl (by kernel_rfl) (by kernel_rfl) (by kernel_rfl) (fun _ _ _ h => h) (Or.inl ⟨by rfl, ?_⟩) hH ?_
              rotate_left 1
              · intro w0 hSw; simp [go_sem, hSw]; with_reducible rfl
              simp only [Act.put, List.getElem_toArray, List.getElem_cons_zero, List.getElem_cons_succ, List.setIfInBounds_toArray, List.set_cons_zero, List.set_cons_succ]
              refine wpAnyH_take (i := 9) (oi := _) (v := ?_) rfl (by kernel_rfl) (by kernel_rfl) (by kernel_rfl) (fun _ _ _ h => h) (Or.inl ⟨by rfl, ?_⟩) hH ?_
              rotate_left 1
              · intro w0 hSw; simp [go_sem]; with_reducible rfl
              simp only [Act.put, List.getElem_toArray, List.getElem_cons_zero, List.getElem_cons_succ, List.setIfInBounds_toArray, List.set_cons_zero, List.set_cons_succ]
              refine wpAnyH_take (i := 10) (oi := _) (v := ?_) rfl (by kernel_rfl) (by kernel_rfl) (by kernel_rfl) (fun _ _ _ h => h) (Or.inl ⟨by rfl, ?_⟩) hH ?_
              rotate_left 1
              · intro w0 hSw; simp [go_sem]; with_reducible rfl
              simp only [Act.put, List.getElem_toArray, List.getElem_cons_zero, List.getElem_cons_succ, List.setIfInBounds_toArray, List.set_cons_zero, List.set_cons_succ]
              refine wpAnyH_take (i := 11) (oi := _) (v := ?_) rfl (by kernel_rfl) (by kernel_rfl) (by kernel_rfl) (fun _ _ _ h => h) (Or.inl ⟨by rfl, ?_⟩) hH ?_
              rotate_left 1
              · intro w0 hSw; simp [go_sem]; with_reducible rfl
              simp only [Act.put, List.getElem_toArray, List.getElem_cons_zero, List.getElem_cons_succ, List.setIfInBounds_toArray, List.set_cons_zero, List.set_cons_succ]
              refine wpAnyH_take (i := 13) (oi := _) (v := ?_) rfl (by kernel_rfl) (by kernel_rfl) (by kernel_rfl) (fun _ _ _ h => h) (Or.inl ⟨by rfl, ?_⟩) hH ?_
              rotate_left 1
              · intro w0 hSw; simp [go_sem, hSw]; with_reducible rfl
              simp only [Act.put, List.getElem_toArray, List.getElem_cons_zero, List.getElem_cons_succ, List.setIfInBounds_toArray, List.set_cons_zero, List.set_cons_succ]
              clear hH
              have hlb := lt_of_block HPd.out.blk
              have hsv3 : ∀ g, sv.ownBlock = some g → c g = 3 := HPd.out.s.2.1
              have htv4 : ∀ g, tv.ownBlock = some g → c g = 4 := HPd.out.t.2.1
              have hown5 := HPd.out.own
              have hsvl : ∀ g, sv.ownBlock = some g → g < (wr.alloc (.cells #[.int .u8 d, .int .u64 x] 70)).drew.heap.size := fun g hg => (World.ownsRow.lt HPd.out.s.1 g hg).2
              have htvl : ∀ g, tv.ownBlock = some g → g < (wr.alloc (.cells #[.int .u8 d, .int .u64 x] 70)).drew.heap.size := fun g hg => (World.ownsRow.lt HPd.out.t.1 g hg).2
              have hps5 : sv.ownBlock ≠ some w.heap.size := fun e => by have := hsv3 _ e; omega
              have hpt5 : tv.ownBlock ≠ some w.heap.size := fun e => by have := htv4 _ e; omega
              have hpb : ¬ (sv.ownBlock = some p ∨ tv.ownBlock = some p) := fun e => by
                have := HHT.out.1
                rcases e with e | e
                · have := hsvl _ e; omega
                · have := htvl _ e; omega
              have hqb : ¬ (sv.ownBlock = some q ∨ tv.ownBlock = some q) := fun e => by
                have := HHq.out.1
                rcases e with e | e
                · have := hsvl _ e; omega
                · have := htvl _ e; omega
              refine grow_region (pb := w.heap.size) (sv := sv) (tv := tv) (z1 := .int .u64 (x % 40)) (z2 := .int .u64 (Ytdohkjpapmkhjaa.take 1 L (x % 40)).xmin) (z3 := .int .u64 (1 + L.length)) (z4 := .slice ra (Ytdohkjpapmkhjaa.take 1 L (x % 40)).run.length rc) (z5 := .int .u64 (x % 40)) (z6 := .int .u64 (1 + L.length)) (z7 := .slice ra2 (Ytdohkjpapmkhjaa.take 1 L (x % 40)).run.length rc2) (fun b1 b2 b3 b4 b5 b6 => #[true, true, true, true, true, b1, true, b2, b3, true, true, true, b4, true, b5, b6, false, false, false, false, false, false])
                (fun _ _ _ _ _ => rfl) (fun _ _ _ _ _ => rfl) (fun _ _ _ _ _ => rfl) (fun _ _ _ _ _ => rfl) (fun _ _ _ _ _ => rfl) (fun _ _ _ _ _ => rfl)
                ?_ rfl rfl rfl rfl rfl rfl rfl rfl rfl rfl rfl rfl rfl rfl rfl rfl rfl rfl rfl rfl rfl rfl rfl rfl HPW.out.s.1 HPW.out.t.1 ?_ ?_ ?_ (rows_apart HPW.out.s.1 HPW.out.t.1 (by decide)) kb2 kb3 hps5 hpt5 ?_ ?_ ?_ ?_ ?_ ?_ ?_ _ rfl
              · intro b1 b2 b3 b4 b5; cases b1 <;> cases b2 <;> cases b3 <;> cases b4 <;> cases b5 <;> kernel_rfl
              · simp; omega
              · simp; omega
              rotate_left 1
              · simp [Act.eval]
              · simp [Act.eval]
              · simp [Act.eval]
              · simp [Act.eval]
              · simp
              · intro z u
                exact cells7 (u.heap HpW.out hpb) (u.heap HqW.out hqb)
              rotate_left 1
              · simp [Value.oneCell']
              · intro bb bb2 v v' w5 hg fuel hfuel
                obtain rfl : fuel = 6 := hfuel
                obtain ⟨va, vc, hv⟩ := ownsRow_slice (hg.o1 v rfl).1
                obtain ⟨va2, vc2, hv2⟩ := ownsRow_slice (hg.o2 v' rfl).1
                rw [List.length_map] at hv hv2
                subst hv
                subst hv2
                have hH := cells7 (hg.upd.heap HpW.out hpb) (hg.upd.heap HqW.out hqb)
                have blk5 := hg.upd.heap HPW.out.blk (fun e => e.elim hps5 hpt5)
                have hne1 : p ≠ w.heap.size := by have := HHT.out.1; omega
                have hne2 : q ≠ w.heap.size := by have := HHq.out.1; omega
                obtain ⟨kk18, kf18, kk21, kf21⟩ := tail_box blk5 (.slice va (S.length + 1) vc)
                have hpq5 := tail_cells (hg.upd.heap HpW.out hpb) (hg.upd.heap HqW.out hqb) hne1 hne2 (.slice va (S.length + 1) vc) (.slice va2 (S.length + 1) vc2)
                have hS18 := cells7 hpq5.1.1 hpq5.1.2
                have hS21 := cells7 hpq5.2.1 hpq5.2.2
                clear hpq5
                have hBd : Below w'.heap.size w' (wt.drewN n3).drew := ⟨hB.os, hB.tape, hB.output, hB.size, hB.block⟩
                obtain ⟨c2, hPn⟩ := pair_tail HPd.out (x % 40) hbl hBd hg hr1 hg1 hr2 hg2 hS1
                have HPn := Lib.hid hPn
                clear hg hPn
                simp only [grown, puts, List.foldl_cons, List.foldl_nil, putO, iff1, Option.map_some, one, if_true, Act.put, List.setIfInBounds_toArray, List.set_cons_zero, List.set_cons_succ]
                refine wpAnyH_take (i := 16) (oi := _) (v := ?_) rfl (by kernel_rfl) (by kernel_rfl) (by kernel_rfl) (fun _ _ _ h => h) (Or.inl ⟨by rfl, ?_⟩) hH ?_
                rotate_left 1
                · intro w0 hSw; simp [go_sem]; with_reducible rfl
                simp only [Act.put, List.getElem_toArray, List.getElem_cons_zero, List.getElem_cons_succ, List.setIfInBounds_toArray, List.set_cons_zero, List.set_cons_succ]
                refine wpAnyH_take (i := 17) (oi := _) (v := ?_) rfl (by kernel_rfl) (by kernel_rfl) (by kernel_rfl) (fun _ _ _ h => h) (Or.inl ⟨by rfl, ?_⟩) hH ?_
                rotate_left 1
                · intro w0 hSw; simp [go_sem]; with_reducible rfl
                simp only [Act.put, List.getElem_toArray, List.getElem_cons_zero, List.getElem_cons_succ, List.setIfInBounds_toArray, List.set_cons_zero, List.set_cons_succ]
                refine wpAnyH_ready (rs := [18]) (by kernel_rfl) (by simp) ?_
                refine AllReadyH.cons rfl (fun K hK => ?_) AllReadyH.nil
                simp [go_sem, kk18, kf18]
                refine hK.out _ _ ?_ (fun hH' => ?_)
                · exact hS18
                clear hK K hH
                have hH := hH'
                clear hH'
                try simp only [List.setIfInBounds_toArray, List.set_cons_zero, List.set_cons_succ]
                refine wpAnyH_take (i := 19) (oi := _) (v := ?_) rfl (by kernel_rfl) (by kernel_rfl) (by kernel_rfl) (fun _ _ _ h => h) (Or.inl ⟨by rfl, ?_⟩) hH ?_
                rotate_left 1
                · intro w0 hSw; simp [go_sem]; with_reducible rfl
                simp only [Act.put, List.getElem_toArray, List.getElem_cons_zero, List.getElem_cons_succ, List.setIfInBounds_toArray, List.set_cons_zero, List.set_cons_succ]
                refine wpAnyH_take (i := 20) (oi := _) (v := ?_) rfl (by kernel_rfl) (by kernel_rfl) (by kernel_rfl) (fun _ _ _ h => h) (Or.inl ⟨by rfl, ?_⟩) hH ?_
                rotate_left 1
                · intro w0 hSw; simp [go_sem]; with_reducible rfl
                simp only [Act.put, List.getElem_toArray, List.getElem_cons_zero, List.getElem_cons_succ, List.setIfInBounds_toArray, List.set_cons_zero, List.set_cons_succ]
                refine wpAnyH_ready (rs := [21]) (by kernel_rfl) (by simp) ?_
                refine AllReadyH.cons rfl (fun K hK => ?_) AllReadyH.nil
                simp [go_sem, kk21, kf21]
                refine hK.out _ _ ?_ (fun hH' => ?_)
                · exact hS21
                clear hK K hH
                have hH := hH'
                clear hH'
                try simp only [List.setIfInBounds_toArray, List.set_cons_zero, List.set_cons_succ]
                refine wpAnyH_done (by kernel_rfl) ?_ _
                clear hH kk18 kk21 kf18 kf21 hS18 hS21
                go_wp2_with fail
                all_goals
                  go_roundw
                  case rel => exact ⟨j + 1, _, _, _, _, _, by omega, by go_num, HPn.out, by omega, by simp; omega, by omega, by simp; omega⟩
                  case measure => simp [intOf]; omega
        · have h5a : (d % 7 == 5) = false := by
            cases hq : (d % 7 == 5) with
            | false => rfl
            | true => exact absurd (.inl hq) h5
          have h6a : (d % 7 == 6) = false := by
            cases hq : (d % 7 == 6) with
            | false => rfl
            | true => exact absurd (.inr hq) h5
          clear h5
          go_wp2_with (first
            | (go_at_call 23; (with_reducible refine (pair_commit hPa _).mono ?_); rintro e wa ⟨rfl, ca, hPb⟩; have kx2 := cell_of_block hPb.blk (i := 1) rfl)
            | (go_at_call 25; (with_reducible refine (pair_abort hPa _).mono ?_); rintro e wa ⟨rfl, ca, hPb⟩; have kx2 := cell_of_block hPb.blk (i := 1) rfl)
            | (go_at_call 18; (with_reducible refine (pair_begin hPa (by omega)).mono ?_); rintro e wa ⟨rfl, ca, hPb⟩; have kx2 := cell_of_block hPb.blk (i := 1) rfl)
            | (go_at_call 24; (with_reducible refine (pair_end2 hPb _ (by omega)).mono ?_); rintro e wb ⟨rfl, cb, hPc⟩)
            | (go_at_call 24; (with_reducible refine (pair_end3 hPb _ (by omega)).mono ?_); rintro e wb ⟨rfl, cb, hPc⟩)
            | (go_at_call 26; (with_reducible refine (pair_rbegin hPb (by omega)).mono ?_); rintro e wb ⟨rfl, cb, hPc⟩))
          all_goals
            go_roundw
            case rel => exact ⟨j + 1, _, _, _, _, _, by omega, by go_num, hPc, by first | (rw [length_ended]; omega) | (simp; omega), by omega, by first | (rw [length_ended]; omega) | (simp; omega), by omega⟩
            case measure => simp [intOf]; omega
      · have hmo2 : most ≤ (j : Int) := by omega
        go_wp2_with fail
        refine bodyPost_ret (v := .tuple #[.pointer (some ⟨w.heap.size, 0, none⟩), .bool true]) (by simp [results, Try.results32, go_sem]) rfl ⟨w.heap.size, rfl, pl, px, c, sv, tv, L, S, hP.alloc _, hL1, hS1⟩
    · have hjl : ¬ (j : Int) < len := by omega
      go_wp2_with fail
      refine bodyPost_ret (v := .tuple #[.pointer (some ⟨w.heap.size, 0, none⟩), .bool true]) (by simp [results, Try.results32, go_sem]) rfl ⟨w.heap.size, rfl, pl, px, c, sv, tv, L, S, hP, hL1, hS1⟩
end Go.Proofs.Ytdohkjpapmkhjaa
