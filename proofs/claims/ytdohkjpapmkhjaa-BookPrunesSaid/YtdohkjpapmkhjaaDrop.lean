/-
  THE BOOK: table: the visible one of a name.
-/
import Derived.Test.YtdohkjpapmkhjaaDesk
namespace Go.Proofs.Ytdohkjpapmkhjaa
open Go.RowKit

def findT (f : Int) (L : List Nat) (s : Snp) (name : ByteArray) : List (Nat × Ent × Value) → Option (Nat × Ent × Value)
  | [] => none
  | t :: r => if t.2.1.name = name ∧ vis f L s t.2.1.xmin t.2.1.xmax = true then some t else findT f L s name r
def ptrT : Option (Nat × Ent × Value) → Value
  | none => .pointer none
  | some t => .pointer (some ⟨t.1, 0, none⟩)

section
variable {c cl : Nat → Nat} {k kl p pl : Nat} {w w' : World} {tv iv : Value} {T : List (Nat × Ent × Value)} {I : List (Nat × Ent × Int)} {last : Int} {f : Int} {L : List Nat}
set_option maxHeartbeats 1000000 in
set_option maxRecDepth 100000 in
/-- (*book.Book).table. -/
theorem table_at (h : BookAt c k w p tv iv T I last) (hl : LogAt cl kl w pl f L) {s : Snp} {rv : Value} (hr : Run w rv s.run) (name : ByteArray) :
    Calls Try.prog 67 #[.pointer (some ⟨p, 0, none⟩), .pointer (some ⟨pl, 0, none⟩), s.val rv, .string name] w fun r w' => r = .returned (ptrT (findT f L s name T)) ∧ Below w.heap.size w w' := by
  obtain ⟨R, hR⟩ : ∃ R, R = ptrT (findT f L s name T) := ⟨_, rfl⟩
  rw [← hR]
  have hvis : ∀ w', Below w.heap.size w w' → ∀ t ∈ T, Calls Try.prog 68 #[.pointer (some ⟨t.1, 0, none⟩), .pointer (some ⟨pl, 0, none⟩), s.val rv] w' fun r w'' => r = .returned (.bool (vis f L s t.2.1.xmin t.2.1.xmax)) ∧ Below w'.heap.size w' w'' := fun w' hb t ht =>
    evis_at (hl.same hb) ((h.tabs t ht).1.ent.same hb) (hr.same hb)
  have hent : ∀ t ∈ T, EntAt w t.1 t.2.1 := fun t ht => (h.tabs t ht).1.ent
  obtain ⟨ta, tc, htv⟩ := ownsRow_slice h.trow
  have htr := h.trow
  have htl := h.tlen
  have k0 := cell_of_block h.blk (i := 0) rfl
  subst htv
  have k0' : w.cell? ⟨p, 0, none⟩ = some (.slice ta T.length tc) := k0
  obtain ⟨own, xmin, xmax, run⟩ := s
  unfold Snp.val at hvis ⊢
  obtain ⟨ra, rc, hrv⟩ := ownsRow_slice hr.1
  subst hrv
  simp only at hvis ⊢
  have hrl := hr.2
  have HR := Lib.hid hR; have HVIS := Lib.hid hvis; have HENT := Lib.hid hent; have HTR := Lib.hid htr
  have hal : Below w.heap.size w (w.alloc (.cells #[.int .u64 own, .int .u64 xmin, .int .u64 xmax, .slice ra run.length rc] 66)) := (Below.refl _ _).alloc (Nat.le_refl _) _
  have hH := heap_new1 w (.cells #[.int .u64 own, .int .u64 xmin, .int .u64 xmax, .slice ra run.length rc] 66)
  have k0a := keeper hal k0'
  clear hR hvis hent htr h hl hr k0 k0'
  go_enter Try.func67, Try.ntmps67
  go_wp2_with fail
  obtain ⟨wz, hwz⟩ : ∃ wz, wz = w.alloc (.cells #[.int .u64 own, .int .u64 xmin, .int .u64 xmax, .slice ra run.length rc] 66) := ⟨_, rfl⟩
  obtain ⟨q, hq⟩ : ∃ q, q = w.heap.size := ⟨_, rfl⟩
  rw [← hwz] at hal hH k0a
  rw [← hq] at hH
  rw [← hwz, ← hq]
  have q0 := cell_of_block hH (i := 0) rfl
  have q1 := cell_of_block hH (i := 1) rfl
  have q2 := cell_of_block hH (i := 2) rfl
  have q3 := cell_of_block hH (i := 3) rfl
  clear hwz hq hH k0a
  go_loopw [16] (fun i wr => ∃ n : Nat, n ≤ T.length ∧ i = .int .i64 n ∧ Hid (R = ptrT (findT f L ⟨own, xmin, xmax, run⟩ name (T.drop n))) ∧ Below wz.heap.size wz wr) (fun i _ => T.length - (intOf i).toNat)
  case atStart => exact ⟨0, Nat.zero_le _, rfl, HR.out, Below.refl _ _⟩
  case round =>
    obtain ⟨n, hn, rfl, HA, hB⟩ := hrel
    have hBw := hal.trans (hB.mono hal.size)
    by_cases hlt : n < T.length
    · obtain ⟨g, cp, hg, cg⟩ := ptrs_at HTR.out (i := n) (by simpa using hlt)
      simp only [Value.slice.injEq] at hg
      obtain ⟨rfl, _, rfl⟩ := hg
      have cg' := keeper hBw cg
      simp only [List.getElem_map] at cg'
      have hm : T[n] ∈ T := List.getElem_mem hlt
      obtain ⟨c0, c1, c2, c3⟩ := (HENT.out _ hm).same hBw
      have hv1 := fun w' hb => HVIS.out w' hb _ hm
      have hdr : T.drop n = T[n] :: T.drop (n + 1) := List.drop_eq_getElem_cons hlt
      have hst := HA.out
      rw [hdr] at hst
      unfold findT at hst
      obtain ⟨t, ht⟩ : ∃ t, t = T[n] := ⟨_, rfl⟩
      rw [← ht] at cg' c0 c1 c2 c3 hv1 hst
      obtain ⟨vb, hvb⟩ : ∃ vb, vb = vis f L ⟨own, xmin, xmax, run⟩ t.2.1.xmin t.2.1.xmax := ⟨_, rfl⟩
      rw [← hvb] at hv1 hst
      have HST := Lib.hid hst; have HV1 := Lib.hid hv1
      obtain ⟨b, hb⟩ : ∃ b, b = t.1 := ⟨_, rfl⟩
      rw [← hb] at cg' c1 HV1
      have HBT := Lib.hid hb
      clear hst hv1 hdr ht hvb cg HA hm c0 c2 c3 hb
      by_cases hnm : t.2.1.name = name
      · have HNM := Lib.hid hnm
        rw [hnm] at c1
        have p0 := keeper hB q0
        have p1 := keeper hB q1
        have p2 := keeper hB q2
        have p3 := keeper hB q3
        have hC0 : Below wr.heap.size wr wr.drew := below_drewN (n := 1)
        have hBd := hBw.trans (hC0.mono hBw.size)
        clear hnm
        go_wp2_with fail
        go_region_held3 (fun z => z.cell? ⟨b, 1, none⟩ = some (.string name) ∧ z.cell? ⟨q, 0, none⟩ = some (.int .u64 own) ∧ z.cell? ⟨q, 1, none⟩ = some (.int .u64 xmin) ∧ z.cell? ⟨q, 2, none⟩ = some (.int .u64 xmax) ∧ z.cell? ⟨q, 3, none⟩ = some (.slice ra run.length rc))
          (first | exact ⟨keeper hC1 c1, keeper hC1 p0, keeper hC1 p1, keeper hC1 p2, keeper hC1 p3⟩ | exact ⟨keeper hC0 c1, keeper hC0 p0, keeper hC0 p1, keeper hC0 p2, keeper hC0 p3⟩)
          (first | (go_at_call 68; (with_reducible refine (HV1.out _ hBd).mono ?_); rintro e w2 ⟨rfl, hk2⟩; have hC1 := hC0.trans (hk2.mono hC0.size)))
        cases vb with
        | true =>
          obtain rfl : R = .pointer (some ⟨b, 0, none⟩) := by
            have := HST.out
            rw [if_pos ⟨HNM.out, rfl⟩] at this
            rw [this, HBT.out]; rfl
          go_wp2_with fail
          go_ret
          exact ⟨rfl, hBw.trans (hC1.mono hBw.size)⟩
        | false =>
          go_wp2_with fail
          go_roundw
          case rel => exact ⟨n + 1, by omega, by go_num, by have := HST.out; rw [if_neg (fun x => by cases x.2)] at this; exact this, hB.trans (hC1.mono hB.size)⟩
          case measure => simp [intOf]; omega
      · obtain ⟨n1, n2, n3⟩ := name_ne hnm
        have HNM := Lib.hid hnm; clear hnm
        go_wp2_with fail
        go_quiet (fail)
        go_wp2_with fail
        go_roundw
        case rel => exact ⟨n + 1, by omega, by go_num, by have := HST.out; rw [if_neg (fun x => HNM.out x.1)] at this; exact this, hB.trans below_drewN⟩
        case measure => simp [intOf]; omega
    · have hnl : n = T.length := by omega
      subst hnl
      have hst := HA.out
      rw [List.drop_length] at hst
      obtain rfl : R = .pointer none := hst
      clear HA HR
      go_wp2_with fail
      go_ret
      exact ⟨rfl, hBw⟩
end
end Go.Proofs.Ytdohkjpapmkhjaa
