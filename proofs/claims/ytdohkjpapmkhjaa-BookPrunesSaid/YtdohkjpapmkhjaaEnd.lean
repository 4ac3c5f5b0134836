/-
  THE BOOK: end: all these are dropped, or none.
-/
import Derived.Test.YtdohkjpapmkhjaaDrop
namespace Go.Proofs.Ytdohkjpapmkhjaa
open Go.RowKit

section
variable {cl : Nat → Nat} {kl pl : Nat} {w w' : World} {v : Value} {bs : List Nat} {es : List Ent} {f : Int} {L : List Nat}

/-- What end does to the blocks: the second stamp is written. -/
def Ended3 (own : Int) (w w' : World) (b : Nat) : Prop := ∀ cs t, w.heap[b]? = some (.cells cs t (0, 0)) → w'.heap[b]? = some (.cells (cs.setIfInBounds 3 (.int .u64 own)) t (0, 0))

set_option maxHeartbeats 1000000 in
set_option maxRecDepth 100000 in
/-- book.end. -/
theorem end_book (hl : LogAt cl kl w pl f L) {s : Snp} {rv : Value} (hr : Run w rv s.run) (hrow : w.ownsRow 0 151 1 v bs.length (ptrs bs)) (hlen : es.length = bs.length) (hbl : bs.length ≤ 1000)
    (hent : ∀ i (h1 : i < bs.length) (h2 : i < es.length), EntAt w bs[i] es[i]) (hblk : ∀ b ∈ bs, ∃ cs t, w.heap[b]? = some (.cells cs t (0, 0)) ∧ t ≠ 151) (honce : bs.Nodup) :
    (∀ e ∈ es, freeE f L s e.xmin e.xmax = 0) ∨ (∃ e ∈ es, freeE f L s e.xmin e.xmax ≠ 0) → Calls Try.prog 69 #[.pointer (some ⟨pl, 0, none⟩), s.val rv, v] w fun r w' =>
      ((∃ e ∈ es, freeE f L s e.xmin e.xmax ≠ 0) ∧ r = .returned (.int .i64 11) ∧ Below w.heap.size w w') ∨
      ((∀ e ∈ es, freeE f L s e.xmin e.xmax = 0) ∧ r = .returned (.int .i64 0) ∧ Upd (fun b => b ∈ bs) w w' ∧ ∀ b ∈ bs, Ended3 s.own w w' b) := by
  intro _
  obtain ⟨va, vc, hv⟩ := ownsRow_slice hrow
  subst hv
  have htu : ∀ w', Below w.heap.size w w' → ∀ i (h1 : i < bs.length) (h2 : i < es.length), Calls Try.prog 82 #[.pointer (some ⟨bs[i], 0, none⟩)] w' fun r w'' => r = .returned (tup es[i].xmin es[i].xmax) ∧ Below w'.heap.size w' w'' := fun w' hb i h1 h2 => etuple_at ((hent i h1 h2).same hb)
  have hfr : ∀ w', Below w.heap.size w w' → ∀ a b, Calls Try.prog 43 #[.pointer (some ⟨pl, 0, none⟩), s.val rv, tup a b] w' fun r w'' => r = .returned (.int .i64 (freeE f L s a b)) ∧ Below w'.heap.size w' w'' := fun w' hb a b => free_at (hl.same hb) (hr.same hb) a b
  obtain ⟨own, xmin, xmax, run⟩ := s
  unfold Snp.val at hfr ⊢
  obtain ⟨ra, rc, hrv⟩ := ownsRow_slice hr.1
  subst hrv
  unfold tup at htu hfr
  simp only at hfr ⊢
  have hrl := hr.2
  have HBLK := Lib.hid hblk; have HONCE := Lib.hid honce
  have HTU := Lib.hid htu; have HFR := Lib.hid hfr; have HROW := Lib.hid hrow; have HLEN := Lib.hid hlen; have HENT := Lib.hid hent
  have hal : Below w.heap.size w (w.alloc (.cells #[.int .u64 own, .int .u64 xmin, .int .u64 xmax, .slice ra run.length rc] 66)) := (Below.refl _ _).alloc (Nat.le_refl _) _
  have hH := heap_new1 w (.cells #[.int .u64 own, .int .u64 xmin, .int .u64 xmax, .slice ra run.length rc] 66)
  clear htu hfr hrow hent hl hr hlen hblk honce
  go_enter Try.func69, Try.ntmps69
  go_wp2_with fail
  obtain ⟨wz, hwz⟩ : ∃ wz, wz = w.alloc (.cells #[.int .u64 own, .int .u64 xmin, .int .u64 xmax, .slice ra run.length rc] 66) := ⟨_, rfl⟩
  obtain ⟨q, hq⟩ : ∃ q, q = w.heap.size := ⟨_, rfl⟩
  rw [← hwz] at hal hH
  rw [← hq] at hH
  rw [← hwz, ← hq]
  have q0 := cell_of_block hH (i := 0) rfl
  have q1 := cell_of_block hH (i := 1) rfl
  have q2 := cell_of_block hH (i := 2) rfl
  have q3 := cell_of_block hH (i := 3) rfl
  have HQ := Lib.hid hq
  clear hwz hq hH
  go_loopw [13] (fun i wr => ∃ n : Nat, n ≤ bs.length ∧ i = .int .i64 n ∧ Hid (∀ i (h : i < es.length), i < n → freeE f L ⟨own, xmin, xmax, run⟩ es[i].xmin es[i].xmax = 0) ∧ Below wz.heap.size wz wr) (fun i _ => bs.length - (intOf i).toNat)
  case atStart => exact ⟨0, Nat.zero_le _, rfl, fun i h h0 => by omega, Below.refl _ _⟩
  case round =>
    obtain ⟨n, hn, rfl, HA, hB⟩ := hrel
    have hBw := hal.trans (hB.mono hal.size)
    by_cases hlt : n < bs.length
    · have hle : n < es.length := by rw [HLEN.out]; exact hlt
      obtain ⟨g, cp, hg, cg⟩ := ptrs_at HROW.out hlt
      simp only [Value.slice.injEq] at hg
      obtain ⟨rfl, _, rfl⟩ := hg
      have cg' := keeper hBw cg
      have ht1 := fun w' hb => HTU.out w' hb n hlt hle
      obtain ⟨b, hb⟩ : ∃ b, b = bs[n] := ⟨_, rfl⟩
      obtain ⟨e, he⟩ : ∃ e, e = es[n] := ⟨_, rfl⟩
      have hem : e ∈ es := by rw [he]; exact List.getElem_mem hle
      have hnx : freeE f L ⟨own, xmin, xmax, run⟩ e.xmin e.xmax = 0 → ∀ i (h : i < es.length), i < n + 1 → freeE f L ⟨own, xmin, xmax, run⟩ es[i].xmin es[i].xmax = 0 := fun h0 i hi hin => by
        by_cases e1 : i = n
        · subst e1; rw [← he]; exact h0
        · exact HA.out i hi (by omega)
      rw [← hb] at cg' ht1
      rw [← he] at ht1
      have hf1 := fun w' hb => HFR.out w' hb e.xmin e.xmax
      obtain ⟨fv, hfv⟩ : ∃ fv, fv = freeE f L ⟨own, xmin, xmax, run⟩ e.xmin e.xmax := ⟨_, rfl⟩
      rw [← hfv] at hf1 hnx
      have HT1 := Lib.hid ht1; have HF1 := Lib.hid hf1; have HNX := Lib.hid hnx; have HFV := Lib.hid hfv; have HEM := Lib.hid hem
      have p0 := keeper hB q0
      have p1 := keeper hB q1
      have p2 := keeper hB q2
      have p3 := keeper hB q3
      have hC0 : Below wr.heap.size wr wr.drew := below_drewN (n := 1)
      have hB0 := hBw.trans (hC0.mono hBw.size)
      clear ht1 hf1 hnx hfv hem he hb cg
      go_wp2_with fail
      go_region_held3 (fun z => z.cell? ⟨q, 0, none⟩ = some (.int .u64 own) ∧ z.cell? ⟨q, 1, none⟩ = some (.int .u64 xmin) ∧ z.cell? ⟨q, 2, none⟩ = some (.int .u64 xmax) ∧ z.cell? ⟨q, 3, none⟩ = some (.slice ra run.length rc))
        (first | exact ⟨keeper hC2 p0, keeper hC2 p1, keeper hC2 p2, keeper hC2 p3⟩ | exact ⟨keeper hC1 p0, keeper hC1 p1, keeper hC1 p2, keeper hC1 p3⟩ | exact ⟨keeper hC0 p0, keeper hC0 p1, keeper hC0 p2, keeper hC0 p3⟩)
        (first
          | (have _h := hC1; go_at_call 43; (with_reducible refine (HF1.out _ hB1).mono ?_); rintro r w2 ⟨rfl, hk2⟩; have hC2 := hC1.trans (hk2.mono hC1.size))
          | (go_at_call 82; (with_reducible refine (HT1.out _ hB0).mono ?_); rintro r w1 ⟨rfl, hk1⟩; have hC1 := hC0.trans (hk1.mono hC0.size); have hB1 := hB0.trans (hk1.mono hB0.size)))
      by_cases h0 : fv = 0
      · have hb0 : (fv != 0) = false := by rw [h0]; rfl
        have H0 := Lib.hid h0; clear h0
        go_wp2_with fail
        go_roundw
        case rel => exact ⟨n + 1, by omega, by go_num, HNX.out H0.out, hB.trans (hC2.mono hB.size)⟩
        case measure => simp [intOf]; omega
      · have hb0 : (fv != 0) = true := by rw [bne_iff_ne]; exact h0
        have H0 := Lib.hid h0; clear h0
        go_wp2_with fail
        go_ret
        exact .inl ⟨⟨e, HEM.out, by rw [← HFV.out]; exact H0.out⟩, rfl, hBw.trans (hC2.mono hBw.size)⟩
    · have hnl : n = bs.length := by omega
      subst hnl
      have hall : ∀ e ∈ es, freeE f L ⟨own, xmin, xmax, run⟩ e.xmin e.xmax = 0 := fun e he => by
        obtain ⟨i, hi, rfl⟩ := List.mem_iff_getElem.1 he
        exact HA.out i hi (by rw [← HLEN.out]; exact hi)
      have HALL := Lib.hid hall
      clear hall HA HTU HFR
      go_wp2_with fail
      obtain ⟨wo, hwo⟩ : ∃ wo, wo = wr := ⟨_, rfl⟩
      subst hwo
      go_loopw [26] (fun i wv => ∃ n : Nat, n ≤ bs.length ∧ i = .int .i64 n ∧ Upd (fun b => b ∈ bs) wo wv ∧ Hid (∀ i (h : i < bs.length), i < n → Ended3 own wo wv bs[i]) ∧ Hid (∀ i (h : i < bs.length), n ≤ i → wv.heap[bs[i]]? = wo.heap[bs[i]]?)) (fun i _ => bs.length - (intOf i).toNat)
      case atStart => exact ⟨0, Nat.zero_le _, rfl, Upd.refl _ _, (fun i h h0 => by omega), fun i h _ => rfl⟩
      case round =>
        obtain ⟨n, hn2, rfl, hU, HD, HS⟩ := hrel
        by_cases hlt2 : n < bs.length
        · have hle : n < es.length := by rw [HLEN.out]; exact hlt2
          have hmem : bs[n] ∈ bs := List.getElem_mem hlt2
          obtain ⟨cs, T, hbk, hT⟩ := HBLK.out _ hmem
          obtain ⟨g, cp, hg, cg⟩ := ptrs_at HROW.out hlt2
          obtain ⟨cu, hgb⟩ := row_block HROW.out (g := g) (by rw [hg]; rfl)
          simp only [Value.slice.injEq] at hg
          obtain ⟨rfl, _, rfl⟩ := hg
          have hgn : ¬ g ∈ bs := fun e => by
            obtain ⟨cs', T', hb', hT'⟩ := HBLK.out _ e
            exact block_ne hb' hgb hT' rfl
          have cg' := hU.cell (keeper hBw cg) hgn
          have hqn : ¬ q ∈ bs := fun e => by
            obtain ⟨cs', T', hb', _⟩ := HBLK.out _ e
            have := lt_of_block hb'
            have := HQ.out; omega
          have o0 := hU.cell (keeper hB q0) hqn
          have e3 := (HENT.out n hlt2 hle).2.2.2
          have hb1 : wo.heap[bs[n]]? = some (.cells cs T (0, 0)) := (Upd.same (S := fun _ => False) hBw).heap hbk id
          have hb2 : wr.heap[bs[n]]? = some (.cells cs T (0, 0)) := (HS.out n hlt2 (Nat.le_refl _)).trans hb1
          have e3' : wr.cell? ⟨bs[n], 3, none⟩ = some (.int .u64 es[n].xmax) := by
            have h1 := keeper hBw e3
            simp only [World.cell?, hb1] at h1
            simp only [World.cell?, hb2]
            exact h1
          have f3 : wr.frozen? ⟨bs[n], 3, none⟩ = false := free_of_block hb2
          have hsto := block_setCell (i := 3) hb2 (.int .u64 own)
          obtain ⟨b, hb⟩ : ∃ b, b = bs[n] := ⟨_, rfl⟩
          have HBE := Lib.hid hb
          rw [← hb] at cg' e3' f3 hb1 hb2 hsto hmem
          clear hb cg hgb hbk e3
          go_wp2_with fail
          go_roundw
          case rel =>
            refine ⟨n + 1, by omega, by go_num, hU.setCell _ (fun _ => hmem), fun i hi hin => ?_, fun i hi hin => ?_⟩
            · by_cases e : i = n
              · subst e
                rw [← HBE.out]
                intro cs' T' h'
                rw [hb1] at h'
                simp only [Option.some.injEq, Obj.cells.injEq] at h'
                obtain ⟨rfl, rfl, _⟩ := h'
                exact hsto
              · have hne : bs[i] ≠ b := by
                  rw [HBE.out]
                  exact fun e2 => e ((List.getElem_inj HONCE.out).1 e2)
                intro cs' T' h'
                exact block_setCell_other (HD.out i hi (by omega) cs' T' h') hne _
            · have hne : bs[i] ≠ b := by
                rw [HBE.out]
                exact fun e2 => by have := (List.getElem_inj HONCE.out).1 e2; omega
              rw [Below.heap_setCell _ _ _ _ hne]
              exact HS.out i hi (by omega)
          case measure => simp [intOf]; omega
        · have hnl2 : n = bs.length := by omega
          subst hnl2
          clear HS
          go_wp2_with fail
          go_ret
          refine .inr ⟨HALL.out, rfl, (Upd.same (S := fun b => b ∈ bs) hBw).trans hU, fun b hb => ?_⟩
          obtain ⟨i, hi, rfl⟩ := List.mem_iff_getElem.1 hb
          intro cs' T' h'
          exact HD.out i hi hi cs' T' ((Upd.same (S := fun _ => False) hBw).heap h' id)
end
end Go.Proofs.Ytdohkjpapmkhjaa
