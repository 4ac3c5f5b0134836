/-
  (*book.Book).DropIndex: the book stays a book.
-/
import Derived.Test.YtdohkjpapmkhjaaDropW
namespace Go.Proofs.Ytdohkjpapmkhjaa
open Go.RowKit

section
variable {c cl : Nat → Nat} {k kl p pl : Nat} {w w' : World} {tv iv : Value} {T : List (Nat × Ent × Value)} {I : List (Nat × Ent × Int)} {last : Int} {f : Int} {L : List Nat}
/-- book.end of one index. -/
theorem end_one (h : BookAt c k w p tv iv T I last) (hl : LogAt cl kl w pl f L) {s : Snp} {rv : Value} (hr : Run w rv s.run) {x : Nat × Ent × Int} (hx : x ∈ I) {v : Value} (hrow : w.ownsRow 0 151 1 v 1 (ptrs [x.1])) :
    Calls Try.prog 69 #[.pointer (some ⟨pl, 0, none⟩), s.val rv, v] w fun r w' =>
      (freeE f L s x.2.1.xmin x.2.1.xmax ≠ 0 ∧ r = .returned (.int .i64 11) ∧ Below w.heap.size w w') ∨
      (freeE f L s x.2.1.xmin x.2.1.xmax = 0 ∧ r = .returned (.int .i64 0) ∧ w'.cell? ⟨x.1, 0, none⟩ = some (.int .u64 x.2.1.id) ∧ BookAt c k w' p tv iv (endT [x.1] s.own T) (endI [x.1] s.own I) last ∧ Upd (fun b => b = x.1) w w') := by
  refine (end_book (bs := [x.1]) (es := [x.2.1]) hl hr hrow rfl (by simp) (fun i h1 h2 => ?_) (fun b hb => ?_) (by simp) ?_).mono fun r w' hp => ?_
  · have : i = 0 := by simp at h1; exact h1
    subst this
    exact (h.inds x hx).1.ent
  · obtain rfl := List.mem_singleton.1 hb
    exact ⟨_, _, (h.inds x hx).1, by decide⟩
  · by_cases hc : freeE f L s x.2.1.xmin x.2.1.xmax = 0
    · exact .inl (fun e he => by obtain rfl := List.mem_singleton.1 he; exact hc)
    · exact .inr ⟨_, List.mem_singleton.2 rfl, hc⟩
  · rcases hp with ⟨⟨e, he, h0⟩, h1, h2⟩ | ⟨h0, h1, h2, h3⟩
    · obtain rfl := List.mem_singleton.1 he
      exact .inl ⟨h0, h1, h2⟩
    · refine .inr ⟨h0 _ (List.mem_singleton.2 rfl), h1, cell_of_block (h3 x.1 (List.mem_singleton.2 rfl) _ _ (h.inds x hx).1) rfl, h.ended h2 h3 (fun b hb => ?_), h2.mono (fun b _ e => List.mem_singleton.1 e)⟩
      obtain rfl := List.mem_singleton.1 hb
      exact .inr (List.mem_map_of_mem hx)

set_option maxHeartbeats 4000000 in
set_option maxRecDepth 100000 in
/-- (*book.Book).DropIndex. -/
theorem dropi_at (h : BookAt c k w p tv iv T I last) (hl : LogAt cl kl w pl f L) {s : Snp} {rv : Value} (hr : Run w rv s.run) (name : ByteArray) :
    Calls Try.prog 56 #[.pointer (some ⟨p, 0, none⟩), .pointer (some ⟨pl, 0, none⟩), s.val rv, .string name] w fun r w' => ∃ r' T' I', r = .returned r' ∧ BookAt c k w' p tv iv T' I' last ∧ Upd (fun b => c b = k) w w' ∧ (T' = T ∨ ∃ bs own, T' = endT bs own T) := by
  have hvis : ∀ w', Below w.heap.size w w' → ∀ t ∈ I, Calls Try.prog 68 #[.pointer (some ⟨t.1, 0, none⟩), .pointer (some ⟨pl, 0, none⟩), s.val rv] w' fun r w'' => r = .returned (.bool (vis f L s t.2.1.xmin t.2.1.xmax)) ∧ Below w'.heap.size w' w'' := fun w' hb t ht =>
    evis_at (hl.same hb) ((h.inds t ht).1.ent.same hb) (hr.same hb)
  have hend : ∀ w', Below w.heap.size w w' → ∀ x ∈ I, ∀ v, w'.ownsRow 0 151 1 v 1 (ptrs [x.1]) → Calls Try.prog 69 #[.pointer (some ⟨pl, 0, none⟩), s.val rv, v] w' _ := fun w' hb x hx v hrow => end_one (h.same hb) (hl.same hb) (hr.same hb) hx hrow
  have hent : ∀ t ∈ I, EntAt w t.1 t.2.1 := fun t ht => (h.inds t ht).1.ent
  have hH0 := Lib.hid h
  obtain ⟨ia, ic, hiv⟩ := ownsRow_slice h.irow
  have hir := h.irow
  have hil := h.ilen
  have k1 := cell_of_block h.blk (i := 1) rfl
  subst hiv
  have k1' : w.cell? ⟨p, 1, none⟩ = some (.slice ia I.length ic) := k1
  obtain ⟨own, xmin, xmax, run⟩ := s
  unfold Snp.val at hvis hend ⊢
  obtain ⟨ra, rc, hrv⟩ := ownsRow_slice hr.1
  subst hrv
  simp only at hvis hend ⊢
  have hrl := hr.2
  have HVIS := Lib.hid hvis; have HENT := Lib.hid hent; have HIR := Lib.hid hir; have HEND := Lib.hid hend
  have hal : Below w.heap.size w (w.alloc (.cells #[.int .u64 own, .int .u64 xmin, .int .u64 xmax, .slice ra run.length rc] 66)) := (Below.refl _ _).alloc (Nat.le_refl _) _
  have hH := heap_new1 w (.cells #[.int .u64 own, .int .u64 xmin, .int .u64 xmax, .slice ra run.length rc] 66)
  have k1a := keeper hal k1'
  clear hvis hent hir h hl hr k1 k1' hend
  go_enter Try.func56, Try.ntmps56
  go_wp2_with fail
  obtain ⟨wz, hwz⟩ : ∃ wz, wz = w.alloc (.cells #[.int .u64 own, .int .u64 xmin, .int .u64 xmax, .slice ra run.length rc] 66) := ⟨_, rfl⟩
  obtain ⟨q, hq⟩ : ∃ q, q = w.heap.size := ⟨_, rfl⟩
  rw [← hwz] at hal hH k1a
  rw [← hq] at hH
  rw [← hwz, ← hq]
  have q0 := cell_of_block hH (i := 0) rfl
  have q1 := cell_of_block hH (i := 1) rfl
  have q2 := cell_of_block hH (i := 2) rfl
  have q3 := cell_of_block hH (i := 3) rfl
  have HQ := Lib.hid hq
  clear hwz hq hH k1a
  go_loopw [20] (fun i wr => ∃ n : Nat, n ≤ I.length ∧ i = .int .i64 n ∧ Below wz.heap.size wz wr) (fun i _ => I.length - (intOf i).toNat)
  case atStart => exact ⟨0, Nat.zero_le _, rfl, Below.refl _ _⟩
  case round =>
    obtain ⟨n, hn, rfl, hB⟩ := hrel
    have hBw := hal.trans (hB.mono hal.size)
    by_cases hlt : n < I.length
    · obtain ⟨g, cp, hg, cg⟩ := ptrs_at HIR.out (i := n) (by simpa using hlt)
      simp only [Value.slice.injEq] at hg
      obtain ⟨rfl, _, rfl⟩ := hg
      have cg' := keeper hBw cg
      simp only [List.getElem_map] at cg'
      have hm : I[n] ∈ I := List.getElem_mem hlt
      obtain ⟨c0, c1, c2, c3⟩ := (HENT.out _ hm).same hBw
      have hv1 := fun w' hb => HVIS.out w' hb _ hm
      have he1 := fun w' hb => HEND.out w' hb _ hm
      obtain ⟨t, ht⟩ : ∃ t, t = I[n] := ⟨_, rfl⟩
      rw [← ht] at cg' c0 c1 c2 c3 hv1 hm
      obtain ⟨vb, hvb⟩ : ∃ vb, vb = vis f L ⟨own, xmin, xmax, run⟩ t.2.1.xmin t.2.1.xmax := ⟨_, rfl⟩
      rw [← hvb] at hv1
      have HV1 := Lib.hid hv1; have HM := Lib.hid hm
      obtain ⟨b, hb⟩ : ∃ b, b = t.1 := ⟨_, rfl⟩
      rw [← hb] at cg' c1 HV1
      have HBT := Lib.hid hb
      clear hv1 ht hvb cg hm c0 c2 c3 hb he1
      by_cases hnm : t.2.1.name = name
      · rw [hnm] at c1
        have p0 := keeper hB q0
        have p1 := keeper hB q1
        have p2 := keeper hB q2
        have p3 := keeper hB q3
        have hC0 : Below wr.heap.size wr wr.drew := below_drewN (n := 1)
        have hBd := hBw.trans (hC0.mono hBw.size)
        clear hnm
        go_wp2_with fail
        go_region_held3 (fun z => z.cell? ⟨b, 1, none⟩ = some (.string name) ∧ z.cell? ⟨q, 0, none⟩ = some (.int .u64 own) ∧ z.cell? ⟨q, 1, none⟩ = some (.int .u64 xmin) ∧ z.cell? ⟨q, 2, none⟩ = some (.int .u64 xmax) ∧ z.cell? ⟨q, 3, none⟩ = some (.slice ra run.length rc))
          (first | exact ⟨keeper hC1 c1, keeper hC1 p0, keeper hC1 p1, keeper hC1 p2, keeper hC1 p3⟩ | exact ⟨keeper hC0 c1, keeper hC0 p0, keeper hC0 p1, keeper hC0 p2, keeper hC0 p3⟩)
          (first | (go_at_call 68; (with_reducible refine (HV1.out _ hBd).mono ?_); rintro e w2 ⟨rfl, hk2⟩; have hC1 := hC0.trans (hk2.mono hC0.size)))
        have hB2 := hB.trans (hC1.mono hB.size)
        have hBw2 := hBw.trans (hC1.mono hBw.size)
        cases vb with
        | false =>
          go_wp2_with fail
          go_roundw
          case rel => exact ⟨n + 1, by omega, by go_num, hB2⟩
          case measure => simp [intOf]; omega
        | true =>
          have hal3 : Below w2.heap.size w2 ((w2.alloc (.cells #[.pointer (some ⟨b, 0, none⟩)] 151)).drew) := ((Below.refl _ _).alloc (Nat.le_refl _) _).drew
          have hBw3 := hBw2.trans (hal3.mono hBw2.size)
          have hrow3 : ((w2.alloc (.cells #[.pointer (some ⟨b, 0, none⟩)] 151)).drew).ownsRow 0 151 1 (.slice (some ⟨w2.heap.size, 0, none⟩) 1 1) 1 (ptrs [t.1]) := by
            refine ⟨by simp [ptrs], .inr ⟨w2.heap.size, 1, #[.pointer (some ⟨b, 0, none⟩)], rfl, Nat.zero_le _, heap_new1 w2 _, Nat.le_refl _, by unfold maxLen; decide, rfl, ?_⟩⟩
            rw [HBT.out]; rfl
          have hcall := HEND.out _ hBw3 t HM.out _ hrow3
          have o0 := keeper hC1 p0
          have o1 := keeper hC1 p1
          have o2 := keeper hC1 p2
          have o3 := keeper hC1 p3
          have hC2 : Below w2.heap.size w2 w2.drew := below_drewN (n := 1)
          have hBT := HBT.out
          have hbook := hH0.out.same hBw
          have hbk : c t.1 = k := (hH0.out.inds t HM.out).2
          have htq : t.1 < q := by
            have := lt_of_block (hH0.out.inds t HM.out).1
            rw [HQ.out]; exact this
          have HO2 := Lib.hid (⟨keeper hC2 o0, keeper hC2 o1, keeper hC2 o2, keeper hC2 o3⟩ : w2.drew.cell? ⟨q, 0, none⟩ = some (.int .u64 own) ∧ w2.drew.cell? ⟨q, 1, none⟩ = some (.int .u64 xmin) ∧ w2.drew.cell? ⟨q, 2, none⟩ = some (.int .u64 xmax) ∧ w2.drew.cell? ⟨q, 3, none⟩ = some (.slice ra run.length rc))
          have HO3 := Lib.hid (⟨keeper hal3 o0, keeper hal3 o1, keeper hal3 o2, keeper hal3 o3⟩ : ((w2.alloc (.cells #[.pointer (some ⟨b, 0, none⟩)] 151)).drew).cell? ⟨q, 0, none⟩ = some (.int .u64 own) ∧ ((w2.alloc (.cells #[.pointer (some ⟨b, 0, none⟩)] 151)).drew).cell? ⟨q, 1, none⟩ = some (.int .u64 xmin) ∧ ((w2.alloc (.cells #[.pointer (some ⟨b, 0, none⟩)] 151)).drew).cell? ⟨q, 2, none⟩ = some (.int .u64 xmax) ∧ ((w2.alloc (.cells #[.pointer (some ⟨b, 0, none⟩)] 151)).drew).cell? ⟨q, 3, none⟩ = some (.slice ra run.length rc))
          have HBW3 := Lib.hid hBw3; have HBK := Lib.hid hbk; have HTQ := Lib.hid htq; have HBOOK := Lib.hid hbook
          by_cases hfr : freeE f L ⟨own, xmin, xmax, run⟩ t.2.1.xmin t.2.1.xmax = 0
          · have hc2 : Calls Try.prog 69 #[.pointer (some ⟨pl, 0, none⟩), .agg #[.int .u64 own, .int .u64 xmin, .int .u64 xmax, .slice ra run.length rc], .slice (some ⟨w2.heap.size, 0, none⟩) 1 1] ((w2.alloc (.cells #[.pointer (some ⟨b, 0, none⟩)] 151)).drew) fun r w' => r = .returned (.int .i64 0) ∧ w'.cell? ⟨b, 0, none⟩ = some (.int .u64 t.2.1.id) ∧ (∃ T' I', BookAt c k w' p tv (.slice (some ⟨g, 0, none⟩) I.length ic) T' I' last ∧ (T' = T ∨ ∃ bs own, T' = endT bs own T)) ∧ Upd (fun b => b = t.1) ((w2.alloc (.cells #[.pointer (some ⟨b, 0, none⟩)] 151)).drew) w' := hcall.mono fun r w' hp => by
              rcases hp with ⟨h0, _⟩ | ⟨_, h1, h2, h3, h4⟩
              · exact absurd hfr h0
              · exact ⟨h1, by rw [hBT]; exact h2, ⟨_, _, h3, .inr ⟨_, _, rfl⟩⟩, h4⟩
            have HC2 := Lib.hid hc2
            clear hc2 hcall hrow3 hBT hbook hbk hfr o0 o1 o2 o3 p0 p1 p2 p3 c1 htq hBw3 hBd hal3
            go_wp2_with fail
            go_region_held3 (fun z => z.cell? ⟨q, 0, none⟩ = some (.int .u64 own) ∧ z.cell? ⟨q, 1, none⟩ = some (.int .u64 xmin) ∧ z.cell? ⟨q, 2, none⟩ = some (.int .u64 xmax) ∧ z.cell? ⟨q, 3, none⟩ = some (.slice ra run.length rc))
              (first | (with_reducible exact HO5.out) | (with_reducible exact HO3.out) | (with_reducible exact HO2.out))
              (first | (go_at_call 69; (with_reducible refine HC2.out.mono ?_); rintro e w5 ⟨rfl, kid, hbk5, hu5⟩; have hO5 := HO3.out; have htq5 := HTQ.out; have HO5 := Lib.hid (⟨hu5.cell hO5.1 (by simp only; omega), hu5.cell hO5.2.1 (by simp only; omega), hu5.cell hO5.2.2.1 (by simp only; omega), hu5.cell hO5.2.2.2 (by simp only; omega)⟩ : w5.cell? ⟨q, 0, none⟩ = some (.int .u64 own) ∧ w5.cell? ⟨q, 1, none⟩ = some (.int .u64 xmin) ∧ w5.cell? ⟨q, 2, none⟩ = some (.int .u64 xmax) ∧ w5.cell? ⟨q, 3, none⟩ = some (.slice ra run.length rc)); have HK5 := Lib.hid hbk5; have HU5 := Lib.hid hu5; clear hbk5 hu5 hO5 htq5))
            go_wp2_with fail
            go_ret2
            obtain ⟨T', I', hb5, hT5⟩ := HK5.out
            exact ⟨_, T', I', rfl, hb5, (Upd.same HBW3.out).trans_new HU5.out (fun b _ e => by rw [e]; exact HBK.out), hT5⟩
          · have hc2 : Calls Try.prog 69 #[.pointer (some ⟨pl, 0, none⟩), .agg #[.int .u64 own, .int .u64 xmin, .int .u64 xmax, .slice ra run.length rc], .slice (some ⟨w2.heap.size, 0, none⟩) 1 1] ((w2.alloc (.cells #[.pointer (some ⟨b, 0, none⟩)] 151)).drew) fun r w' => r = .returned (.int .i64 11) ∧ Below ((w2.alloc (.cells #[.pointer (some ⟨b, 0, none⟩)] 151)).drew).heap.size ((w2.alloc (.cells #[.pointer (some ⟨b, 0, none⟩)] 151)).drew) w' := hcall.mono fun r w' hp => by
              rcases hp with ⟨_, h1, h2⟩ | ⟨h0, _⟩
              · exact ⟨h1, h2⟩
              · exact absurd h0 hfr
            have HC2 := Lib.hid hc2
            clear hc2 hcall hrow3 hBT hbook hbk hfr o0 o1 o2 o3 p0 p1 p2 p3 c1 htq hBw3 hBd hal3
            go_wp2_with fail
            go_region_held3 (fun z => z.cell? ⟨q, 0, none⟩ = some (.int .u64 own) ∧ z.cell? ⟨q, 1, none⟩ = some (.int .u64 xmin) ∧ z.cell? ⟨q, 2, none⟩ = some (.int .u64 xmax) ∧ z.cell? ⟨q, 3, none⟩ = some (.slice ra run.length rc))
              (first | (with_reducible exact HO5.out) | (with_reducible exact HO3.out) | (with_reducible exact HO2.out))
              (first | (go_at_call 69; (with_reducible refine HC2.out.mono ?_); rintro e w5 ⟨rfl, hb5⟩; have hO5 := HO3.out; have HO5 := Lib.hid (⟨keeper hb5 hO5.1, keeper hb5 hO5.2.1, keeper hb5 hO5.2.2.1, keeper hb5 hO5.2.2.2⟩ : w5.cell? ⟨q, 0, none⟩ = some (.int .u64 own) ∧ w5.cell? ⟨q, 1, none⟩ = some (.int .u64 xmin) ∧ w5.cell? ⟨q, 2, none⟩ = some (.int .u64 xmax) ∧ w5.cell? ⟨q, 3, none⟩ = some (.slice ra run.length rc)); have HB5 := Lib.hid hb5; clear hb5 hO5))
            have hBw5 : Below w.heap.size w w5 := HBW3.out.trans (HB5.out.mono HBW3.out.size)
            have HF := Lib.hid (hH0.out.same hBw5); have HBW5 := Lib.hid hBw5
            clear hBw5
            go_wp2_with fail
            go_ret2
            exact ⟨_, T, I, rfl, HF.out, Upd.same HBW5.out, .inl rfl⟩
      · obtain ⟨n1, n2, n3⟩ := name_ne hnm
        clear hnm
        go_wp2_with fail
        go_quiet (fail)
        go_wp2_with fail
        go_roundw
        case rel => exact ⟨n + 1, by omega, by go_num, hB.trans below_drewN⟩
        case measure => simp [intOf]; omega
    · have hnl : n = I.length := by omega
      subst hnl
      have hbook := Lib.hid (hH0.out.same hBw)
      go_wp2_with fail
      go_ret2
      exact ⟨_, T, I, rfl, hbook.out, Upd.same hBw, .inl rfl⟩
end
end Go.Proofs.Ytdohkjpapmkhjaa
