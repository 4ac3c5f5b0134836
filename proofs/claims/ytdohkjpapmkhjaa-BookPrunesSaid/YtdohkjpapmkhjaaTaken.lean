/-
  THE BOOK: taken: is a name, for a snapshot; of any book, any log, any snapshot.
-/
import Derived.Test.YtdohkjpapmkhjaaBook
namespace Go.Proofs.Ytdohkjpapmkhjaa
open Go.RowKit

/-- 7: it is there; 11: somebody else's stands in the way; 0: it is free. -/
def takenE (f : Int) (L : List Nat) (s : Snp) (name : ByteArray) : List Ent → Int → Int
  | [], acc => acc
  | e :: r, acc => if e.name = name then (if vis f L s e.xmin e.xmax = true then 7 else if aliveB f L e = true ∧ e.xmax ≠ s.own then takenE f L s name r 11 else takenE f L s name r acc) else takenE f L s name r acc

theorem name_ne {a b : ByteArray} (h : a ≠ b) : ¬ a.toList = b.toList ∧ (a.toList == b.toList) = false ∧ decide (a.toList = b.toList) = false := by
  have : ¬ a.toList = b.toList := fun e => h (by
    rw [ByteArray.toList_eq, ByteArray.toList_eq] at e
    cases a; cases b
    simp only [ByteArray.mk.injEq]
    exact Array.toList_inj.1 e)
  exact ⟨this, by rw [beq_eq_false_iff_ne]; exact this, by simpa using this⟩

section
variable {c cl : Nat → Nat} {k kl p pl : Nat} {w w' : World} {tv iv : Value} {T : List (Nat × Ent × Value)} {I : List (Nat × Ent × Int)} {last : Int} {f : Int} {L : List Nat}

set_option maxHeartbeats 1000000 in
set_option maxRecDepth 100000 in
/-- (*book.Book).taken. -/
theorem taken_at (h : BookAt c k w p tv iv T I last) (hl : LogAt cl kl w pl f L) {s : Snp} {rv : Value} (hr : Run w rv s.run) (name : ByteArray) :
    Calls Try.prog 64 #[.pointer (some ⟨p, 0, none⟩), .pointer (some ⟨pl, 0, none⟩), s.val rv, .string name] w fun r w' =>
      r = .returned (.int .i64 (takenE f L s name ((ents T I).map (·.2)) 0)) ∧ Below w.heap.size w w' := by
  obtain ⟨E, hE⟩ : ∃ E, E = (ents T I).map (·.2) := ⟨_, rfl⟩
  obtain ⟨BL, hBL⟩ : ∃ BL, BL = (ents T I).map (·.1) := ⟨_, rfl⟩
  have hEl : E.length = (ents T I).length := by rw [hE]; simp
  have hBl : BL.length = (ents T I).length := by rw [hBL]; simp
  have hEB : ∀ i (h1 : i < E.length) (h2 : i < BL.length), EntAt w BL[i] E[i] := fun i h1 h2 => by
    have h3 : i < (ents T I).length := by omega
    have e1 : E[i] = (ents T I)[i].2 := by simp [hE]
    have e2 : BL[i] = (ents T I)[i].1 := by simp [hBL]
    rw [e1, e2]
    exact h.ents _ (List.getElem_mem h3)
  have hll : (ents T I).length ≤ 32 := by
    have := h.tlen; have := h.ilen
    simp [ents]; omega
  have hent : ∀ w', Below w.heap.size w w' → Calls Try.prog 80 #[.pointer (some ⟨p, 0, none⟩)] w' fun r w'' => ∃ v, r = .returned v ∧ w''.ownsRow w'.heap.size 151 1 v E.length (ptrs BL) ∧ Below w'.heap.size w' w'' := fun w' hb => by
    have := entries_at (h.same hb)
    rw [← hBL, ← hEl] at this; exact this
  have hvis : ∀ w', Below w.heap.size w w' → ∀ i (h1 : i < E.length) (h2 : i < BL.length), Calls Try.prog 68 #[.pointer (some ⟨BL[i], 0, none⟩), .pointer (some ⟨pl, 0, none⟩), s.val rv] w' fun r w'' => r = .returned (.bool (vis f L s E[i].xmin E[i].xmax)) ∧ Below w'.heap.size w' w'' := fun w' hb i h1 h2 =>
    evis_at (hl.same hb) ((hEB i h1 h2).same hb) (hr.same hb)
  have hali : ∀ w', Below w.heap.size w w' → ∀ i (h1 : i < E.length) (h2 : i < BL.length), Calls Try.prog 81 #[.pointer (some ⟨BL[i], 0, none⟩), .pointer (some ⟨pl, 0, none⟩)] w' fun r w'' => r = .returned (.bool (aliveB f L E[i])) ∧ ∃ n, w'' = w'.drewN n := fun w' hb i h1 h2 =>
    ealive_at (hl.same hb) ((hEB i h1 h2).same hb)
  rw [← hE]
  obtain ⟨R, hR⟩ : ∃ R, R = takenE f L s name E 0 := ⟨_, rfl⟩
  rw [← hR]
  have HR := Lib.hid hR
  have HEB := Lib.hid hEB; have HENT := Lib.hid hent; have HVIS := Lib.hid hvis; have HALI := Lib.hid hali
  have HBLL := Lib.hid (show BL.length = E.length by omega)
  have hlen : E.length ≤ 32 := by omega
  obtain ⟨own, xmin, xmax, run⟩ := s
  unfold Snp.val at HVIS ⊢
  simp only at HVIS hr ⊢
  obtain ⟨ra, rc, hrv⟩ := ownsRow_slice hr.1
  subst hrv
  have hrl := hr.2
  clear hE hBL hEl hBl hEB hll hent hvis hali hR h hl hr
  have hal : Below w.heap.size w (w.alloc (.cells #[.int .u64 own, .int .u64 xmin, .int .u64 xmax, .slice ra run.length rc] 66)) := (Below.refl _ _).alloc (Nat.le_refl _) _
  have hH := heap_new1 w (.cells #[.int .u64 own, .int .u64 xmin, .int .u64 xmax, .slice ra run.length rc] 66)
  go_enter Try.func64, Try.ntmps64
  go_wp2_with fail
  refine (HENT.out _ hal).mono ?_
  rintro r w1 ⟨v, rfl, hrow, hk1⟩
  have hB1 := hal.trans (hk1.mono hal.size)
  have q0 : w1.cell? ⟨w.heap.size, 0, none⟩ = some (.int .u64 own) := keeper hk1 (cell_of_block hH rfl)
  have q1 : w1.cell? ⟨w.heap.size, 1, none⟩ = some (.int .u64 xmin) := keeper hk1 (cell_of_block hH rfl)
  have q2 : w1.cell? ⟨w.heap.size, 2, none⟩ = some (.int .u64 xmax) := keeper hk1 (cell_of_block hH rfl)
  have q3 : w1.cell? ⟨w.heap.size, 3, none⟩ = some (.slice ra run.length rc) := keeper hk1 (cell_of_block hH rfl)
  obtain ⟨va, vc, hv⟩ := ownsRow_slice hrow
  subst hv
  clear hal hH hk1
  go_wp2_with fail
  go_loopw [9, 15] (fun a i wr => ∃ (n : Nat) (acc : Int), n ≤ E.length ∧ i = .int .i64 n ∧ a = .int .i64 acc ∧ Hid (R = takenE f L ⟨own, xmin, xmax, run⟩ name (E.drop n) acc) ∧ Below w1.heap.size w1 wr) (fun _ i _ => E.length - (intOf i).toNat)
  case atStart => exact ⟨0, 0, Nat.zero_le _, rfl, rfl, HR.out, Below.refl _ _⟩
  case round =>
    obtain ⟨n, acc, hn, rfl, rfl, HA, hB⟩ := hrel
    have hBw := hB1.trans (hB.mono hB1.size)
    by_cases hlt : n < E.length
    · have hlb : n < BL.length := by rw [HBLL.out]; exact hlt
      obtain ⟨g, cp, hg, cg⟩ := ptrs_at hrow hlb
      simp only [Value.slice.injEq] at hg
      obtain ⟨rfl, _, rfl⟩ := hg
      have cg' := keeper hB cg
      obtain ⟨c0, c1, c2, c3⟩ := (HEB.out n hlt hlb).same hBw
      have hv1 := HVIS.out _ hBw n hlt hlb
      have hv2 := fun w' hb => HALI.out w' hb n hlt hlb
      have hdr : E.drop n = E[n] :: E.drop (n + 1) := List.drop_eq_getElem_cons hlt
      have hst := HA.out
      rw [hdr] at hst
      unfold takenE at hst
      obtain ⟨e, he⟩ : ∃ e, e = E[n] := ⟨_, rfl⟩
      obtain ⟨b, hb⟩ : ∃ b, b = BL[n] := ⟨_, rfl⟩
      rw [← hb] at cg' c0 c1 c2 c3 hv1 hv2
      rw [← he] at c0 c1 c2 c3 hv1 hv2 hst
      obtain ⟨vb, hvb⟩ : ∃ vb, vb = vis f L ⟨own, xmin, xmax, run⟩ e.xmin e.xmax := ⟨_, rfl⟩
      obtain ⟨av, hav⟩ : ∃ av, av = aliveB f L e := ⟨_, rfl⟩
      rw [← hvb] at hv1 hst
      rw [← hav] at hv2 hst
      have HST := Lib.hid hst
      have HV1 := Lib.hid hv1; have HV2 := Lib.hid hv2
      clear hst hv1 hv2 hdr he hb hvb hav cg HA
      by_cases hnm : e.name = name
      · have HNM := Lib.hid hnm
        rw [hnm] at c1
        have p0 := keeper hB q0
        have p1 := keeper hB q1
        have p2 := keeper hB q2
        have p3 := keeper hB q3
        clear hnm
        cases vb with
        | true =>
          obtain rfl : R = 7 := by rw [HST.out, if_pos HNM.out, if_pos rfl]
          go_wp2_with fail
          refine HV1.out.mono ?_
          rintro r w2 ⟨rfl, hk2⟩
          go_wp2_with fail
          go_ret
          exact ⟨rfl, hBw.trans (hk2.mono hBw.size)⟩
        | false =>
          go_wp2_with fail
          refine HV1.out.mono ?_
          rintro r w2 ⟨rfl, hk2⟩
          have c3' := keeper hk2 c3
          have p0' := keeper hk2 p0
          have hB2 := hBw.trans (hk2.mono hBw.size)
          have hal2 : ∀ m, Calls Try.prog 81 #[.pointer (some ⟨b, 0, none⟩), .pointer (some ⟨pl, 0, none⟩)] (w2.drewN m) fun r w'' => r = .returned (.bool av) ∧ ∃ n, w'' = (w2.drewN m).drewN n := fun m => HV2.out _ (hB2.trans below_drewN)
          have HAL := Lib.hid hal2
          clear hal2 c0 c1 c2 c3 p0 p1 p2 p3 HV1 HV2
          obtain ⟨mx, hmx⟩ : ∃ mx, mx = e.xmax := ⟨_, rfl⟩
          rw [← hmx] at c3'
          have HMX := Lib.hid hmx; clear hmx
          cases av with
          | false =>
            go_wp2_with fail
            go_quiet ((go_at_call 81; exact Calls.quiet_of (HAL.out _)))
            go_wp2_with fail
            go_roundw
            case rel => exact ⟨n + 1, acc, by omega, by go_num, rfl, by have := HST.out; rw [if_pos HNM.out, if_neg (by decide), if_neg (fun x => by cases x.1)] at this; exact this, (hB.trans (hk2.mono hB.size)).trans below_drewN⟩
            case measure => simp [intOf]; omega
          | true =>
            by_cases hx : mx = own
            · have hb : (mx != own) = false := by rw [hx]; simp
              have HX := Lib.hid hx; clear hx
              go_wp2_with fail
              go_quiet ((go_at_call 81; exact Calls.quiet_of (HAL.out _)))
              go_wp2_with fail
              go_roundw
              case rel => exact ⟨n + 1, acc, by omega, by go_num, rfl, by have := HST.out; rw [if_pos HNM.out, if_neg (by decide), if_neg (fun x => x.2 (by rw [← HMX.out]; exact HX.out))] at this; exact this, (hB.trans (hk2.mono hB.size)).trans below_drewN⟩
              case measure => simp [intOf]; omega
            · have hb : (mx != own) = true := by rw [bne_iff_ne]; exact hx
              have HX := Lib.hid hx; clear hx
              go_wp2_with fail
              go_quiet ((go_at_call 81; exact Calls.quiet_of (HAL.out _)))
              go_wp2_with fail
              go_roundw
              case rel => exact ⟨n + 1, 11, by omega, by go_num, rfl, by have := HST.out; rw [if_pos HNM.out, if_neg (by decide), if_pos ⟨trivial, by rw [← HMX.out]; exact HX.out⟩] at this; exact this, (hB.trans (hk2.mono hB.size)).trans below_drewN⟩
              case measure => simp [intOf]; omega
      · obtain ⟨n1, n2, n3⟩ := name_ne hnm
        have HNM := Lib.hid hnm; clear hnm
        go_wp2_with fail
        go_roundw
        case rel => exact ⟨n + 1, acc, by omega, by go_num, rfl, by have := HST.out; rw [if_neg HNM.out] at this; exact this, hB⟩
        case measure => simp [intOf]; omega
    · have hnl : n = E.length := by omega
      subst hnl
      have hst := HA.out
      rw [List.drop_length] at hst
      obtain rfl : R = acc := hst
      clear HA HR
      go_wp2_with fail
      go_ret
      exact ⟨rfl, hBw⟩
end
end Go.Proofs.Ytdohkjpapmkhjaa
