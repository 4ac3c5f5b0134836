/-
  ClogOnce, the walk: what became of a transaction stays so: a map kept beside the log.
-/
import Derived.Test.YtdohkjpapmkhjaaLawNine
import Derived.Test.YtdohkjpapmkhjaaMaps
namespace Go.Proofs.Ytdohkjpapmkhjaa
open Go.RowKit

theorem zero3 (w : World) : (zeroValue 3).run Try.prog w = .ok (.int .i64 0) w := by kernel_rfl
theorem key23 : KeyKind Try.prog 23 (Value.int .u64) := keyKind_int Try.underlying23

/-- What is read of a byte slice that came in. -/
def Bytes1 (w : World) (a : Option Addr) (len : Nat) : Prop :=
  ∀ i, i < len → ∃ b off d, a = some ⟨b, off, none⟩ ∧ b < w.heap.size ∧ w.cell? ⟨b, off + i, none⟩ = some (.int .u8 d) ∧ 0 ≤ d ∧ d ≤ 255

/-- The map holds what became of those that are over, no more. -/
structure Ended (k : Nat) (L : List Nat) (m : List (Int × Value)) : Prop where
  len : L.length = k
  get : ∀ i, i < k → mget m (1 + (i : Int)) = if L.getD i 0 = 1 then none else some (.int .i64 (L.getD i 0 : Nat))
  cnt : (running 1 L).length + m.length = k
  pos : ∀ i, i < k → L.getD i 0 ≠ 0

theorem Ended.start (k : Nat) : Ended k (List.replicate k 1) [] := by
  refine ⟨by simp, fun i hi => ?_, by rw [running_ones]; rfl, fun i hi => by simp [List.getD_eq_getElem?_getD, hi]⟩
  rw [if_pos (by simp [List.getD_eq_getElem?_getD, hi])]; rfl
theorem Ended.step {k : Nat} {L : List Nat} {m : List (Int × Value)} (h : Ended k L m) {i s : Nat} (hi : i < k) (h1 : L.getD i 0 = 1) (hs : s ≠ 1) (hs0 : s ≠ 0) :
    Ended k (L.set i s) (mset m (1 + (i : Int)) (.int .i64 (s : Nat))) := by
  have hg := h.get i hi
  rw [if_pos h1] at hg
  have hl := h.len
  refine ⟨by rw [List.length_set]; exact h.len, fun j hj => ?_, ?_, fun j hj => ?_⟩
  · rw [mget_mset, getD_set]
    by_cases e : j = i
    · subst e
      have hjl : j < L.length := by omega
      simp [hjl, hs]
    · have hne : ¬ (1 + (j : Int) = 1 + (i : Int)) := by omega
      have h2 : ¬ (j = i ∧ i < L.length) := fun x => e x.1
      rw [if_neg hne, if_neg h2]
      exact h.get j hj
  · have := running_set 1 L i s (by omega) h1 hs
    rw [length_mset, hg]
    have := h.cnt
    simp only [Option.isSome_none, Bool.false_eq_true, if_false]
    omega
  · rw [getD_set]
    split
    · exact hs0
    · exact h.pos j hj

set_option maxHeartbeats 2000000 in
set_option maxRecDepth 100000 in
theorem clogOnce_any (n : Int) (a : Option Addr) (len cap : Nat) (w : World) (hn : 0 ≤ n) (hlen : len ≤ 9223372036854775807) (hs : Bytes1 w a len) :
    Calls Try.prog 5 #[.int .u8 n, .slice a len cap] w fun e w' => e = .returned (.bool true) ∧ Below w.heap.size w w' := by
  have hmm := @run_makeMap Try.prog
  have HS := Lib.hid hs; clear hs
  go_enter Try.func5, Try.ntmps5
  go_wp2_with fail
  refine (awake_nine w).mono ?_
  rintro e w1 ⟨rfl, b1⟩
  go_wp2_with fail
  refine (new_own 1 w1 (by decide) (by decide)).mono ?_
  rintro e w2 ⟨rfl, l2, b2⟩
  go_wp2_with fail
  go_loopw [25] (fun i wr => ∃ j : Nat, i = .int .u64 j ∧ (j : Int) ≤ 1 + n % 40 ∧ LogAt (own w1.heap.size) 1 wr w1.heap.size 1 (List.replicate j 1) ∧ Below w1.heap.size w1 wr) (fun i _ => 45 - (intOf i).toNat)
  case atStart => exact ⟨0, rfl, by omega, l2, b2⟩
  case round =>
    obtain ⟨j, rfl, hj, l3, b3⟩ := hrel
    have hz := b3.size
    have hlenr : ((List.replicate j 1).length : Int) = j := by simp
    by_cases hlt : (j : Int) < 1 + n % 40
    · have HL := Lib.hid hlenr; clear hlenr
      go_wp2_with (go_at_call 18; refine (begin_own l3 (by rw [HL.out]; omega) hz).mono ?_; rw [HL.out]; rintro e w4 ⟨rfl, l4, b4⟩)
      go_roundw
      case rel => exact ⟨j + 1, by go_num, by omega, by rw [List.replicate_succ']; exact l4, b3.trans b4⟩
      case measure => simp [intOf]; omega
    · have hjk : (j : Int) = 1 + n % 40 := by omega
      have HK := Lib.hid hjk; clear hjk
      go_wp2_with fail
      obtain ⟨wo, rfl⟩ : ∃ wo : World, wo = wr := ⟨_, rfl⟩
      have hl0 : (wo.alloc (.map #[] 0)).heap.size = wo.heap.size + 1 := by simp
      have hm0 := MapOf.made wo (Value.int .u64)
      have l3' : LogAt (col (own w1.heap.size) wo.heap.size 2) 1 (wo.alloc (.map #[] 0)) w1.heap.size 1 (List.replicate j 1) :=
        (l3.recol (fun b hb => col_old hb)).same ((Below.refl _ _).alloc (Nat.le_refl _) _)
      have b3' : Below w1.heap.size w1 (wo.alloc (.map #[] 0)) := b3.alloc hz _
      have e0 := Ended.start j
      go_loopw [33] (fun i wv => ∃ (q : Nat) (L : List Nat) (m : List (Int × Value)), q ≤ len ∧ i = .int .i64 q ∧ Ended j L m ∧ LogAt (col (own w1.heap.size) wo.heap.size 2) 1 wv w1.heap.size 1 L ∧
        MapOf (Value.int .u64) wv wo.heap.size m ∧ Below w1.heap.size w1 wv) (fun i _ => len - (intOf i).toNat)
      case atStart => exact ⟨0, _, _, Nat.zero_le _, rfl, e0, l3', hm0, b3'⟩
      case round =>
        clear l3' b3' hm0 e0 l3 b3 hl0
        obtain ⟨q, L, m, hq, rfl, he, hl, hm, hB⟩ := hrel
        have hzv := hB.size
        by_cases hql : q < len
        · obtain ⟨b, off, d, ha, hb, c0, d0, d1⟩ := HS.out q hql
          subst ha
          have hBw := b1.trans (hB.mono b1.size)
          have c0' := (hBw.cell (p := ⟨b, off + q, none⟩) hb).trans c0
          clear c0 hBw
          have hq64 : q < 9223372036854775807 := by omega
          by_cases h80 : q < 80
          · obtain ⟨i, hi⟩ := Int.eq_ofNat_of_zero_le (show 0 ≤ d / 2 % (1 + n % 40) from Int.emod_nonneg _ (by omega))
            have hi1 : d / 2 % (1 + n % 40) < 1 + n % 40 := Int.emod_lt_of_pos _ (by omega)
            have hij : i < j := by have := HK.out; omega
            have hi40 : (i : Int) < 40 := by omega
            have hti : (1 + (i : Int) - 1).toNat = i := by omega
            have hg := he.get i hij
            clear hi1
            by_cases hr : L.getD i 0 = 1
            · rw [if_pos hr] at hg
              by_cases hbit : (bits BinOp.and IntKind.u8 d 1 == 1) = true
              · have hL : ended 1 L (1 + (i : Int)) 3 = L.set i 3 := by rw [ended, if_pos (by rw [stt_in (by omega), hti]; exact hr)]; rw [hti]
                have hE : endErr 1 L (1 + (i : Int)) = 0 := by rw [endErr, if_pos (by rw [stt_in (by omega), hti]; exact hr)]
                have hst : stt 1 (L.set i 3) (1 + (i : Int)) = 3 := by rw [stt_in (by omega), hti, getD_set, if_pos ⟨rfl, by have := he.len; omega⟩]
                have hnew := he.step hij hr (s := 3) (by decide) (by decide)
                have HN := Lib.hid hnew; clear hnew
                have HR := Lib.hid hr; clear hr
                have HT := Lib.hid hti; clear hti
                go_wp2_with fail
                refine (abort_at hl _).mono ?_
                rw [hE, hL]
                clear hE hL
                rintro e wa ⟨rfl, hla, hua⟩
                have hma := hm.upd hua (by rw [col_new (Nat.le_refl _)]; decide)
                have hBa := hB.trans (hua.below hzv (fun b hb e => by rw [col_old (by omega), own, col_old hb] at e; exact absurd e (by decide)))
                have hlk : (Instr.lookup 51 (.map (some wo.heap.size)) (.int .u64 (1 + (i : Int))) false).run Try.prog wa = .ok (.int .i64 0) wa := by
                  rw [run_lookup_map hma key23 Try.underlying51 (zero3 _), hg]; rfl
                go_wp2_with (at_mapUpdate; refine wpList_update_map rfl _ _ _ 51 rfl 23 3 key23 Try.underlying51 _ _ rfl hma (1 + (i : Int)) (.int .i64 3) rfl rfl ?_; intro wb hmb hub)
                clear hlk
                have hlb := hla.upd hub (fun b e1 e2 => by subst e2; rw [col_new (Nat.le_refl _)] at e1; exact absurd e1 (by decide))
                have hBb := hBa.trans (hub.below (Nat.le_trans hzv hua.size) (fun b hb e => by omega))
                have hmb2 : mget (mset m (1 + (i : Int)) (.int .i64 3)) (1 + (i : Int)) = some (.int .i64 3) := by rw [mget_mset, if_pos rfl]
                have hlk2 : ∀ n, (Instr.lookup 51 (.map (some wo.heap.size)) (.int .u64 (1 + (i : Int))) false).run Try.prog (wb.drewN n) = .ok (.int .i64 3) (wb.drewN n) := fun n => by
                  rw [run_lookup_map (hmb.drewN n) key23 Try.underlying51 (zero3 _), hmb2]; rfl
                clear hmb2
                have hs2 : ∀ n, Calls Try.prog 21 #[.pointer (some ⟨w1.heap.size, 0, none⟩), .int .u64 (1 + (i : Int))] (wb.drewN n) fun e w' => e = .returned (.int .i64 3) ∧ ∃ k, w' = (wb.drewN n).drewN k := fun n => by
                  have := state_at (hlb.drewN n) (1 + (i : Int))
                  rw [hst] at this; exact this
                clear hst
                have HS2 := Lib.hid hs2; clear hs2
                go_wp2_with fail
                go_quiet ((go_at_call 21; exact Calls.quiet_of (HS2.out _)))
                go_wp2_with fail
                go_roundw
                case rel => exact ⟨q + 1, _, _, by omega, by go_num, HN.out, hlb.drewN _, hmb.drewN _, hBb.trans (Upd.below (S := fun _ => False) (Upd.of_drewN _) (hBb.size) (fun _ _ x => x))⟩
                case measure => simp [intOf]; omega
              rw [Bool.not_eq_true] at hbit
              have hL : ended 1 L (1 + (i : Int)) 2 = L.set i 2 := by rw [ended, if_pos (by rw [stt_in (by omega), hti]; exact hr)]; rw [hti]
              have hE : endErr 1 L (1 + (i : Int)) = 0 := by rw [endErr, if_pos (by rw [stt_in (by omega), hti]; exact hr)]
              have hst : stt 1 (L.set i 2) (1 + (i : Int)) = 2 := by rw [stt_in (by omega), hti, getD_set, if_pos ⟨rfl, by have := he.len; omega⟩]
              have hnew := he.step hij hr (s := 2) (by decide) (by decide)
              have HN := Lib.hid hnew; clear hnew
              have HR := Lib.hid hr; clear hr
              have HT := Lib.hid hti; clear hti
              go_wp2_with fail
              refine (commit_at hl _).mono ?_
              rw [hE, hL]
              clear hE hL
              rintro e wa ⟨rfl, hla, hua⟩
              have hma := hm.upd hua (by rw [col_new (Nat.le_refl _)]; decide)
              have hBa := hB.trans (hua.below hzv (fun b hb e => by rw [col_old (by omega), own, col_old hb] at e; exact absurd e (by decide)))
              have hlk : (Instr.lookup 51 (.map (some wo.heap.size)) (.int .u64 (1 + (i : Int))) false).run Try.prog wa = .ok (.int .i64 0) wa := by
                rw [run_lookup_map hma key23 Try.underlying51 (zero3 _), hg]; rfl
              go_wp2_with (at_mapUpdate; refine wpList_update_map rfl _ _ _ 51 rfl 23 3 key23 Try.underlying51 _ _ rfl hma (1 + (i : Int)) (.int .i64 2) rfl rfl ?_; intro wb hmb hub)
              clear hlk
              have hlb := hla.upd hub (fun b e1 e2 => by subst e2; rw [col_new (Nat.le_refl _)] at e1; exact absurd e1 (by decide))
              have hBb := hBa.trans (hub.below (Nat.le_trans hzv hua.size) (fun b hb e => by omega))
              have hmb2 : mget (mset m (1 + (i : Int)) (.int .i64 2)) (1 + (i : Int)) = some (.int .i64 2) := by rw [mget_mset, if_pos rfl]
              have hlk2 : ∀ n, (Instr.lookup 51 (.map (some wo.heap.size)) (.int .u64 (1 + (i : Int))) false).run Try.prog (wb.drewN n) = .ok (.int .i64 2) (wb.drewN n) := fun n => by
                rw [run_lookup_map (hmb.drewN n) key23 Try.underlying51 (zero3 _), hmb2]; rfl
              clear hmb2
              have hs2 : ∀ n, Calls Try.prog 21 #[.pointer (some ⟨w1.heap.size, 0, none⟩), .int .u64 (1 + (i : Int))] (wb.drewN n) fun e w' => e = .returned (.int .i64 2) ∧ ∃ k, w' = (wb.drewN n).drewN k := fun n => by
                have := state_at (hlb.drewN n) (1 + (i : Int))
                rw [hst] at this; exact this
              clear hst
              have HS2 := Lib.hid hs2; clear hs2
              go_wp2_with fail
              go_quiet ((go_at_call 21; exact Calls.quiet_of (HS2.out _)))
              go_wp2_with fail
              go_roundw
              case rel => exact ⟨q + 1, _, _, by omega, by go_num, HN.out, hlb.drewN _, hmb.drewN _, hBb.trans (Upd.below (S := fun _ => False) (Upd.of_drewN _) (hBb.size) (fun _ _ x => x))⟩
              case measure => simp [intOf]; omega
            · rw [if_neg hr] at hg
              have hx0 : (((L.getD i 0 : Nat) : Int) == 0) = false := by
                have := he.pos i hij
                rw [beq_eq_false_iff_ne]; omega
              have hsx : ((stt 1 L (1 + (i : Int)) : Nat) : Int) = ((L.getD i 0 : Nat) : Int) := by rw [stt_in (by omega), hti]
              obtain ⟨x, hx⟩ : ∃ x : Int, x = ((L.getD i 0 : Nat) : Int) := ⟨_, rfl⟩
              rw [← hx] at hx0 hg hsx
              clear hx
              have HX := Lib.hid hsx; clear hsx
              by_cases hbit : (bits BinOp.and IntKind.u8 d 1 == 1) = true
              · have hL : ended 1 L (1 + (i : Int)) 3 = L := by rw [ended, if_neg (by rw [stt_in (by omega), hti]; exact hr)]
                have hE : endErr 1 L (1 + (i : Int)) = 15 := by rw [endErr, if_neg (by rw [stt_in (by omega), hti]; exact hr)]
                go_wp2_with fail
                refine (abort_at hl _).mono ?_
                rw [hE, hL]
                clear hE hL
                rintro e wa ⟨rfl, hla, hua⟩
                have hma := hm.upd hua (by rw [col_new (Nat.le_refl _)]; decide)
                have hBa := hB.trans (hua.below hzv (fun b hb e => by rw [col_old (by omega), own, col_old hb] at e; exact absurd e (by decide)))
                have hlk : ∀ n, (Instr.lookup 51 (.map (some wo.heap.size)) (.int .u64 (1 + (i : Int))) false).run Try.prog (wa.drewN n) = .ok (.int .i64 x) (wa.drewN n) := fun n => by
                  rw [run_lookup_map (hma.drewN n) key23 Try.underlying51 (zero3 _), hg]; rfl
                have hlk0 : (Instr.lookup 51 (.map (some wo.heap.size)) (.int .u64 (1 + (i : Int))) false).run Try.prog wa = .ok (.int .i64 x) wa := hlk 0
                have hs2 : ∀ n, Calls Try.prog 21 #[.pointer (some ⟨w1.heap.size, 0, none⟩), .int .u64 (1 + (i : Int))] (wa.drewN n) fun e w' => e = .returned (.int .i64 x) ∧ ∃ k, w' = (wa.drewN n).drewN k := fun n => by
                  have := state_at (hla.drewN n) (1 + (i : Int))
                  rw [HX.out] at this; exact this
                have HS2 := Lib.hid hs2; clear hs2
                go_wp2_with fail
                go_quiet ((go_at_call 21; exact Calls.quiet_of (HS2.out _)))
                go_wp2_with fail
                go_roundw
                case rel => exact ⟨q + 1, _, _, by omega, by go_num, he, hla.drewN _, hma.drewN _, hBa.trans (Upd.below (S := fun _ => False) (Upd.of_drewN _) (hBa.size) (fun _ _ x => x))⟩
                case measure => simp [intOf]; omega
              rw [Bool.not_eq_true] at hbit
              have hL : ended 1 L (1 + (i : Int)) 2 = L := by rw [ended, if_neg (by rw [stt_in (by omega), hti]; exact hr)]
              have hE : endErr 1 L (1 + (i : Int)) = 15 := by rw [endErr, if_neg (by rw [stt_in (by omega), hti]; exact hr)]
              go_wp2_with fail
              refine (commit_at hl _).mono ?_
              rw [hE, hL]
              clear hE hL
              rintro e wa ⟨rfl, hla, hua⟩
              have hma := hm.upd hua (by rw [col_new (Nat.le_refl _)]; decide)
              have hBa := hB.trans (hua.below hzv (fun b hb e => by rw [col_old (by omega), own, col_old hb] at e; exact absurd e (by decide)))
              have hlk : ∀ n, (Instr.lookup 51 (.map (some wo.heap.size)) (.int .u64 (1 + (i : Int))) false).run Try.prog (wa.drewN n) = .ok (.int .i64 x) (wa.drewN n) := fun n => by
                rw [run_lookup_map (hma.drewN n) key23 Try.underlying51 (zero3 _), hg]; rfl
              have hlk0 : (Instr.lookup 51 (.map (some wo.heap.size)) (.int .u64 (1 + (i : Int))) false).run Try.prog wa = .ok (.int .i64 x) wa := hlk 0
              have hs2 : ∀ n, Calls Try.prog 21 #[.pointer (some ⟨w1.heap.size, 0, none⟩), .int .u64 (1 + (i : Int))] (wa.drewN n) fun e w' => e = .returned (.int .i64 x) ∧ ∃ k, w' = (wa.drewN n).drewN k := fun n => by
                have := state_at (hla.drewN n) (1 + (i : Int))
                rw [HX.out] at this; exact this
              have HS2 := Lib.hid hs2; clear hs2
              go_wp2_with fail
              go_quiet ((go_at_call 21; exact Calls.quiet_of (HS2.out _)))
              go_wp2_with fail
              go_roundw
              case rel => exact ⟨q + 1, _, _, by omega, by go_num, he, hla.drewN _, hma.drewN _, hBa.trans (Upd.below (S := fun _ => False) (Upd.of_drewN _) (hBa.size) (fun _ _ x => x))⟩
              case measure => simp [intOf]; omega
          · have hq80 : ¬ (q : Int) < 80 := by omega
            have hrl : (((running 1 L).length : Nat) : Int) = 1 + n % 40 - (m.length : Int) := by have := he.cnt; have := HK.out; omega
            have hml : (m.length : Int) ≤ 1 + n % 40 := by have := he.cnt; have := HK.out; omega
            have hbq : ((((running 1 L).length : Nat) : Int) == 1 + n % 40 - (m.length : Int)) = true := by rw [beq_iff_eq]; exact hrl
            have hrx : (((running 1 L).length : Nat) : Int) ≤ 41 := by omega
            obtain ⟨r, hr⟩ : ∃ r, r = (running 1 L).length := ⟨_, rfl⟩
            rw [← hr] at hbq hrx
            have HR := Lib.hid hr; clear hr hrl
            go_wp2_with fail
            refine (all_at hl).mono ?_
            rw [← HR.out]
            rintro e wa ⟨v, rfl, owna, ba⟩
            obtain ⟨av, capv, rfl⟩ := ownsRow_slice owna
            have hma := hm.same ba
            clear owna
            go_wp2_with (at_len; refine wpList_len_map rfl _ 51 rfl 23 3 Try.underlying51 _ _ rfl hma ?_)
            go_ret
            exact ⟨rfl, b1.trans ((hB.trans (ba.mono hzv)).mono b1.size)⟩
        · have hqle : ¬ (q : Int) < len := by omega
          have hrl : (((running 1 L).length : Nat) : Int) = 1 + n % 40 - (m.length : Int) := by have := he.cnt; have := HK.out; omega
          have hml : (m.length : Int) ≤ 1 + n % 40 := by have := he.cnt; have := HK.out; omega
          have hbq : ((((running 1 L).length : Nat) : Int) == 1 + n % 40 - (m.length : Int)) = true := by rw [beq_iff_eq]; exact hrl
          have hrx : (((running 1 L).length : Nat) : Int) ≤ 41 := by omega
          obtain ⟨r, hr⟩ : ∃ r, r = (running 1 L).length := ⟨_, rfl⟩
          rw [← hr] at hbq hrx
          have HR := Lib.hid hr; clear hr hrl
          go_wp2_with fail
          refine (all_at hl).mono ?_
          rw [← HR.out]
          rintro e wa ⟨v, rfl, owna, ba⟩
          obtain ⟨av, capv, rfl⟩ := ownsRow_slice owna
          have hma := hm.same ba
          clear owna
          go_wp2_with (at_len; refine wpList_len_map rfl _ 51 rfl 23 3 Try.underlying51 _ _ rfl hma ?_)
          go_ret
          exact ⟨rfl, b1.trans ((hB.trans (ba.mono hzv)).mono b1.size)⟩
end Go.Proofs.Ytdohkjpapmkhjaa
