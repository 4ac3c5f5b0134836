/-
  THE BOOK: Indexes: the visible ones of a table, told.
-/
import Derived.Test.YtdohkjpapmkhjaaTold
namespace Go.Proofs.Ytdohkjpapmkhjaa
open Go.RowKit
def idxCells (x : Nat × Ent × Int) : List Value := [.int .u64 x.2.1.id, .string x.2.1.name, .int .u64 x.2.2, .int .i64 0, .int .u64 x.2.1.xmin, .int .u64 x.2.1.xmax]
theorem Try.info107 : (Try.prog.info? 107).map (fun i => (i.zero, i.size, i.bytes)) = some (some (.agg #[.int .u64 0, .string ByteArray.empty, .int .u64 0, .int .i64 0, .int .u64 0, .int .u64 0]), 6, 56) := by kernel_rfl
section
variable {c cl : Nat → Nat} {k kl p pl : Nat} {w w' : World} {tv iv : Value} {T : List (Nat × Ent × Value)} {I : List (Nat × Ent × Int)} {last : Int} {f : Int} {L : List Nat}
set_option maxHeartbeats 2000000 in
set_option maxRecDepth 100000 in
/-- (*book.Book).Indexes. -/
theorem indexes_at (h : BookAt c k w p tv iv T I last) (hl : LogAt cl kl w pl f L) {s : Snp} {rv : Value} (hr : Run w rv s.run) (tid : Int) :
    Calls Try.prog 55 #[.pointer (some ⟨p, 0, none⟩), .pointer (some ⟨pl, 0, none⟩), s.val rv, .int .u64 tid] w fun r w' =>
      ∃ v, r = .returned v ∧ w'.ownsRow w.heap.size 107 6 v (visI f L s tid I).length ((visI f L s tid I).flatMap idxCells) ∧ Below w.heap.size w w' := by
  obtain ⟨i0, hi, hz0, hz1, hz2⟩ := info_parts Try.info107
  have hvis : ∀ w', Below w.heap.size w w' → ∀ x ∈ I, Calls Try.prog 68 #[.pointer (some ⟨x.1, 0, none⟩), .pointer (some ⟨pl, 0, none⟩), s.val rv] w' fun r w'' => r = .returned (.bool (vis f L s x.2.1.xmin x.2.1.xmax)) ∧ Below w'.heap.size w' w'' := fun w' hb x hx =>
    evis_at (hl.same hb) ((h.inds x hx).1.ent.same hb) (hr.same hb)
  have hto : ∀ w', Below w.heap.size w w' → ∀ x ∈ I, Calls Try.prog 72 #[.pointer (some ⟨x.1, 0, none⟩)] w' fun r w'' => r = .returned (idxV x.2.1 x.2.2) ∧ Below w'.heap.size w' w'' := fun w' hb x hx =>
    told_ind ((h.same hb).inds x hx).1
  have hind : ∀ x ∈ I, w.cell? ⟨x.1, 4, none⟩ = some (.int .u64 x.2.2) := fun x hx => cell_of_block (h.inds x hx).1 rfl
  have hnx := fun n (hn : n < I.length) => visI_snoc (f := f) (L := L) (s := s) (tid := tid) hn
  have hvl : ∀ n, (visI f L s tid (I.take n)).length ≤ n := fun n => Nat.le_trans (visI_len ..) (by simp; omega)
  have hv0 : visI f L s tid (I.take 0) = [] := rfl
  have hall : visI f L s tid I = visI f L s tid (I.take I.length) := by rw [List.take_length]
  rw [hall]
  obtain ⟨V, hV⟩ : ∃ V : Nat → List (Nat × Ent × Int), V = fun n => visI f L s tid (I.take n) := ⟨_, rfl⟩
  have hV' : ∀ n, visI f L s tid (I.take n) = V n := fun n => by rw [hV]
  simp only [hV'] at hnx hvl hv0 ⊢
  clear hV hV' hall
  obtain ⟨own, xmin, xmax, run⟩ := s
  unfold Snp.val at hvis ⊢
  obtain ⟨ra, rc, hrv⟩ := ownsRow_slice hr.1
  subst hrv
  simp only at hvis ⊢
  have k1 := cell_of_block h.blk (i := 1) rfl
  obtain ⟨ia, ic, hiv⟩ := ownsRow_slice h.irow
  have hir := h.irow
  have hil := h.ilen
  subst hiv
  have k1' : w.cell? ⟨p, 1, none⟩ = some (.slice ia I.length ic) := k1
  have HVIS := Lib.hid hvis; have HTO := Lib.hid hto; have HIND := Lib.hid hind; have HIR := Lib.hid hir; have HNX := Lib.hid hnx; have HVL := Lib.hid hvl; have HV0 := Lib.hid hv0
  have hal : Below w.heap.size w (w.alloc (.cells #[.int .u64 own, .int .u64 xmin, .int .u64 xmax, .slice ra run.length rc] 66)) := (Below.refl _ _).alloc (Nat.le_refl _) _
  have hH := heap_new1 w (.cells #[.int .u64 own, .int .u64 xmin, .int .u64 xmax, .slice ra run.length rc] 66)
  have k1a := keeper hal k1'
  clear hvis hto hind hir hnx hvl hv0 h hl hr k1 k1'
  go_enter Try.func55, Try.ntmps55
  go_wp2_with fail
  obtain ⟨wz, hwz⟩ : ∃ wz, wz = w.alloc (.cells #[.int .u64 own, .int .u64 xmin, .int .u64 xmax, .slice ra run.length rc] 66) := ⟨_, rfl⟩
  obtain ⟨q, hq⟩ : ∃ q, q = w.heap.size := ⟨_, rfl⟩
  rw [← hwz] at hal hH k1a
  rw [← hq] at hH
  rw [← hwz, ← hq]
  have q0 : wz.cell? ⟨q, 0, none⟩ = some (.int .u64 own) := cell_of_block hH rfl
  have q1 : wz.cell? ⟨q, 1, none⟩ = some (.int .u64 xmin) := cell_of_block hH rfl
  have q2 : wz.cell? ⟨q, 2, none⟩ = some (.int .u64 xmax) := cell_of_block hH rfl
  have q3 : wz.cell? ⟨q, 3, none⟩ = some (.slice ra run.length rc) := cell_of_block hH rfl
  clear hwz hq hH k1a
  have hown0 : wz.ownsRow wz.heap.size 107 6 (.slice none 0 0) (V 0).length ((V 0).flatMap idxCells) := by rw [HV0.out]; exact World.ownsRow_nil _ _ _ _
  go_loopw [9, 19] (fun v i wr => ∃ n : Nat, n ≤ I.length ∧ i = .int .i64 n ∧ wr.ownsRow wz.heap.size 107 6 v (V n).length ((V n).flatMap idxCells) ∧ Below w.heap.size w wr ∧ Below wz.heap.size wz wr) (fun _ i _ => I.length - (intOf i).toNat)
  case atStart => exact ⟨0, Nat.zero_le _, rfl, hown0, hal, Below.refl _ _⟩
  case round =>
    obtain ⟨n, hn, rfl, hown, hB, hBz⟩ := hrel
    have hwn : ∀ b, u9.ownBlock = some b → wz.heap.size ≤ b := fun b hb => (World.ownsRow.lt hown b hb).1
    have HWN := Lib.hid hwn; clear hwn
    have hz := hB.size
    have hvn := HVL.out n
    by_cases hlt : n < I.length
    · obtain ⟨g, cp, hg, cg⟩ := ptrs_at HIR.out (i := n) (by simpa using hlt)
      simp only [Value.slice.injEq] at hg
      obtain ⟨rfl, _, rfl⟩ := hg
      have cg' := keeper hB cg
      simp only [List.getElem_map] at cg'
      have hm : I[n] ∈ I := List.getElem_mem hlt
      have c4 := keeper hB (HIND.out _ hm)
      have hv1 := fun w' hb => HVIS.out w' hb _ hm
      have ht1 := fun w' hb => HTO.out w' hb _ hm
      have hnx := HNX.out n hlt
      obtain ⟨x, hx⟩ : ∃ x, x = I[n] := ⟨_, rfl⟩
      rw [← hx] at cg' c4 hv1 ht1 hnx
      obtain ⟨vb, hvb⟩ : ∃ vb, vb = vis f L ⟨own, xmin, xmax, run⟩ x.2.1.xmin x.2.1.xmax := ⟨_, rfl⟩
      rw [← hvb] at hv1 hnx
      obtain ⟨b, ⟨eid, enm, exn, exx⟩, xt⟩ := x
      unfold idxV at ht1
      simp only at cg' c4 hv1 ht1 hnx
      have HV1 := Lib.hid hv1; have HN := Lib.hid hnx; have HT1 := Lib.hid ht1
      clear hnx hv1 ht1 hx hvb hm cg
      by_cases he : xt = tid
      · subst he
        have p0 := keeper hBz q0
        have p1 := keeper hBz q1
        have p2 := keeper hBz q2
        have p3 := keeper hBz q3
        have hC0 : Below wr.heap.size wr wr.drew := below_drewN (n := 1)
        have hBd := hB.trans (hC0.mono hB.size)
        go_wp2_with fail
        go_region_held3 (fun z => z.cell? ⟨b, 4, none⟩ = some (.int .u64 xt) ∧ z.cell? ⟨q, 0, none⟩ = some (.int .u64 own) ∧ z.cell? ⟨q, 1, none⟩ = some (.int .u64 xmin) ∧ z.cell? ⟨q, 2, none⟩ = some (.int .u64 xmax) ∧ z.cell? ⟨q, 3, none⟩ = some (.slice ra run.length rc))
          (first | exact ⟨keeper hC1 c4, keeper hC1 p0, keeper hC1 p1, keeper hC1 p2, keeper hC1 p3⟩ | exact ⟨keeper hC0 c4, keeper hC0 p0, keeper hC0 p1, keeper hC0 p2, keeper hC0 p3⟩)
          (first | (go_at_call 68; (with_reducible refine (HV1.out _ hBd).mono ?_); rintro e w2 ⟨rfl, hk2⟩; have hC1 := hC0.trans (hk2.mono hC0.size)))
        cases vb with
        | true =>
          have hVn : V (n + 1) = V n ++ [(b, ⟨eid, enm, exn, exx⟩, xt)] := by have := HN.out; rwa [if_pos (by simp)] at this
          have hlen : (V (n + 1)).length = (V n).length + 1 := by rw [hVn]; simp
          have hfl : (V (n + 1)).flatMap idxCells = (V n).flatMap idxCells ++ [.int .u64 eid, .string enm, .int .u64 xt, .int .i64 0, .int .u64 exn, .int .u64 exx] := by
            rw [hVn, List.flatMap_append]; rfl
          obtain ⟨m, hm⟩ : ∃ m, m = (V n).length := ⟨_, rfl⟩
          have hml : m ≤ 16 := by omega
          rw [← hm] at hlen hown
          have HLEN := Lib.hid hlen; have HFL := Lib.hid hfl
          have hB3 := hB.trans (hC1.mono hB.size)
          have hz3 : wz.heap.size ≤ w2.heap.size := (hBz.trans (hC1.mono hBz.size)).size
          clear hVn hlen hfl hm
          go_wp2_with fail
          refine (HT1.out _ hB3).mono ?_
          rintro e w3 ⟨rfl, hk3⟩
          have hC3 := hC1.trans (hk3.mono hC1.size)
          have hB4 := hB.trans (hC3.mono hB.size)
          have hz4 : wz.heap.size ≤ w3.heap.size := (hBz.trans (hC3.mono hBz.size)).size
          have hown1 := ownsRow_upd hown (S := fun _ => False) (Upd.same hC3) (fun _ _ x => x)
          have hown2 := World.ownsRow.alloc hown1 (.cells #[.int .u64 eid, .string enm, .int .u64 xt, .int .i64 0, .int .u64 exn, .int .u64 exx] 107)
          go_wp2_with (at_builtin; refine wpList_append_mine rfl (.tmp 37) (.tmp 40) 114 rfl wz.heap.size 107 i0 (.agg #[.int .u64 0, .string ByteArray.empty, .int .u64 0, .int .i64 0, .int .u64 0, .int .u64 0]) 6 56 Try.underlying114 hi hz0 hz1 hz2 rfl (by decide) _ _ _ rfl hown2 ⟨w3.heap.size, 0, none⟩ 1 1 [.int .u64 eid, .string enm, .int .u64 xt, .int .i64 0, .int .u64 exn, .int .u64 exx] rfl rfl ?c1 ?c2 ?c3 ?c4 ?c5 ?_)
          case c1 => first | exact fun j u h => h | exact news_block (heap_new1 w3 _)
          case c2 => intro u hu; simp at hu; rcases hu with rfl | rfl | rfl | rfl | rfl | rfl <;> rfl
          case c3 => unfold maxLen; omega
          case c4 => first | omega | (simp; omega)
          case c5 => first | omega | (simp; omega)
          intro v' w5 hown' hupd hnew
          have hbz5 : Below wz.heap.size w3 w5 := Upd.below (S := fun b => u9.ownBlock = some b) ((Upd.same ((Below.refl _ _).alloc (Nat.le_refl _) _)).trans hupd) (hBz.trans (hC3.mono hBz.size)).size (fun b hb e => by have := HWN.out _ e; omega)
          have hb5 : Below w.heap.size w3 w5 := hbz5.mono hal.size
          go_wp2_with fail
          go_roundw
          case rel => exact ⟨n + 1, by omega, by go_num, by rw [HLEN.out, HFL.out]; exact hown', hB4.trans hb5, hBz.trans ((hC3.mono hBz.size).trans hbz5)⟩
          case measure => simp [intOf]; omega
        | false =>
          have hVn : V (n + 1) = V n := by have := HN.out; rwa [if_neg (fun y => by cases y.2)] at this
          have HVN := Lib.hid hVn
          clear hVn
          go_wp2_with fail
          go_roundw
          case rel => exact ⟨n + 1, by omega, by go_num, by rw [HVN.out]; exact ownsRow_upd hown (S := fun _ => False) (Upd.same hC1) (fun _ _ x => x), hB.trans (hC1.mono hB.size), hBz.trans (hC1.mono hBz.size)⟩
          case measure => simp [intOf]; omega
      · have hVn : V (n + 1) = V n := by have := HN.out; rwa [if_neg (fun y => he y.1)] at this
        have HVN := Lib.hid hVn
        clear hVn
        go_wp2_with fail
        go_quiet (fail)
        go_wp2_with fail
        go_roundw
        case rel => exact ⟨n + 1, by omega, by go_num, by rw [HVN.out]; exact ownsRow_upd hown (S := fun _ => False) (Upd.same below_drewN) (fun _ _ x => x), hB.trans below_drewN, hBz.trans below_drewN⟩
        case measure => simp [intOf]; omega
    · have hnl : n = I.length := by omega
      subst hnl
      go_wp2_with fail
      go_ret
      exact ⟨_, rfl, ownsRow_base hown hal.size, hB⟩
end
end Go.Proofs.Ytdohkjpapmkhjaa
