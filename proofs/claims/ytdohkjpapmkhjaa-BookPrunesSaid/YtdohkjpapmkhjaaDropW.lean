/-
  THE BOOK: DropTable, of any book.
-/
import Derived.Test.YtdohkjpapmkhjaaDropT
namespace Go.Proofs.Ytdohkjpapmkhjaa
open Go.RowKit

/-- The indexes of a table that a snapshot sees. -/
def visI (f : Int) (L : List Nat) (s : Snp) (tid : Int) (I : List (Nat × Ent × Int)) : List (Nat × Ent × Int) := I.filter fun x => decide (x.2.2 = tid) && vis f L s x.2.1.xmin x.2.1.xmax
theorem visI_snoc {f : Int} {L : List Nat} {s : Snp} {tid : Int} {I : List (Nat × Ent × Int)} {n : Nat} (hn : n < I.length) :
    visI f L s tid (I.take (n + 1)) = if I[n].2.2 = tid ∧ vis f L s I[n].2.1.xmin I[n].2.1.xmax = true then visI f L s tid (I.take n) ++ [I[n]] else visI f L s tid (I.take n) := by
  unfold visI
  rw [List.take_succ_eq_append_getElem hn, List.filter_append]
  by_cases h : I[n].2.2 = tid ∧ vis f L s I[n].2.1.xmin I[n].2.1.xmax = true
  · rw [if_pos h, List.filter_cons_of_pos (by simp [h.1, h.2])]; rfl
  · rw [if_neg h, List.filter_cons_of_neg (by simpa using h)]; simp
theorem visI_len (f : Int) (L : List Nat) (s : Snp) (tid : Int) (I : List (Nat × Ent × Int)) : (visI f L s tid I).length ≤ I.length := List.length_filter_le _ _

section
variable {c cl : Nat → Nat} {k kl p pl : Nat} {w w' : World} {tv iv : Value} {T : List (Nat × Ent × Value)} {I : List (Nat × Ent × Int)} {last : Int} {f : Int} {L : List Nat}
set_option maxHeartbeats 1000000 in
set_option maxRecDepth 100000 in
/-- (*book.Book).DropTable: no such table. -/
theorem drop_none (h : BookAt c k w p tv iv T I last) (hl : LogAt cl kl w pl f L) {s : Snp} {rv : Value} (hr : Run w rv s.run) (name : ByteArray) (hf : findT f L s name T = none) :
    Calls Try.prog 52 #[.pointer (some ⟨p, 0, none⟩), .pointer (some ⟨pl, 0, none⟩), s.val rv, .string name] w fun r w' => r = .returned (.tuple #[.int .u64 0, .int .i64 6]) ∧ Below w.heap.size w w' := by
  have htab : ∀ w', Below w.heap.size w w' → Calls Try.prog 67 #[.pointer (some ⟨p, 0, none⟩), .pointer (some ⟨pl, 0, none⟩), s.val rv, .string name] w' fun r w'' => r = .returned (.pointer none) ∧ Below w'.heap.size w' w'' := fun w' hb => by
    have := table_at (h.same hb) (hl.same hb) (hr.same hb) name
    rw [hf] at this
    exact this
  obtain ⟨own, xmin, xmax, run⟩ := s
  unfold Snp.val at htab ⊢
  obtain ⟨ra, rc, hrv⟩ := ownsRow_slice hr.1
  subst hrv
  simp only at htab ⊢
  have HT := Lib.hid htab
  have hal : Below w.heap.size w (w.alloc (.cells #[.int .u64 own, .int .u64 xmin, .int .u64 xmax, .slice ra run.length rc] 66)) := (Below.refl _ _).alloc (Nat.le_refl _) _
  have hH := heap_new1 w (.cells #[.int .u64 own, .int .u64 xmin, .int .u64 xmax, .slice ra run.length rc] 66)
  clear htab h hl hr hf
  go_enter Try.func52, Try.ntmps52
  go_wp2_with fail
  obtain ⟨wz, hwz⟩ : ∃ wz, wz = w.alloc (.cells #[.int .u64 own, .int .u64 xmin, .int .u64 xmax, .slice ra run.length rc] 66) := ⟨_, rfl⟩
  obtain ⟨q, hq⟩ : ∃ q, q = w.heap.size := ⟨_, rfl⟩
  rw [← hwz] at hal hH
  rw [← hq] at hH
  rw [← hwz, ← hq]
  have q0 := cell_of_block hH (i := 0) rfl
  have q1 := cell_of_block hH (i := 1) rfl
  have q2 := cell_of_block hH (i := 2) rfl
  have q3 := cell_of_block hH (i := 3) rfl
  clear hwz hq hH
  go_wp2_with fail
  refine (HT.out _ hal).mono ?_
  rintro e w1 ⟨rfl, hk1⟩
  go_wp2_with fail
  go_ret2
  exact ⟨rfl, hal.trans (hk1.mono hal.size)⟩

/-- What DropTable ends: the table and its visible indexes. -/
def dropB (f : Int) (L : List Nat) (s : Snp) (t : Nat × Ent × Value) (I : List (Nat × Ent × Int)) : List Nat := t.1 :: (visI f L s t.2.1.id I).map (·.1)
def dropE (f : Int) (L : List Nat) (s : Snp) (t : Nat × Ent × Value) (I : List (Nat × Ent × Int)) : List Ent := t.2.1 :: (visI f L s t.2.1.id I).map (·.2.1)
theorem findT_mem {s : Snp} {name : ByteArray} {t : Nat × Ent × Value} : ∀ {T : List (Nat × Ent × Value)}, findT f L s name T = some t → t ∈ T
  | a :: r, h => by
    unfold findT at h
    by_cases hc : a.2.1.name = name ∧ vis f L s a.2.1.xmin a.2.1.xmax = true
    · rw [if_pos hc] at h; obtain rfl := Option.some.inj h; exact List.mem_cons_self
    · rw [if_neg hc] at h; exact List.mem_cons_of_mem _ (findT_mem h)
theorem dropB_in (_h : BookAt c k w p tv iv T I last) {s : Snp} {t : Nat × Ent × Value} (ht : t ∈ T) : ∀ b ∈ dropB f L s t I, b ∈ T.map (·.1) ∨ b ∈ I.map (·.1) := fun b hb => by
  rcases List.mem_cons.1 hb with rfl | hb
  · exact .inl (List.mem_map_of_mem ht)
  · obtain ⟨x, hx, rfl⟩ := List.mem_map.1 hb
    exact .inr (List.mem_map_of_mem (List.mem_filter.1 hx).1)
theorem dropB_once (h : BookAt c k w p tv iv T I last) {s : Snp} {t : Nat × Ent × Value} (ht : t ∈ T) : (dropB f L s t I).Nodup := by
  refine List.nodup_cons.2 ⟨fun hm => ?_, ?_⟩
  · obtain ⟨x, hx, he⟩ := List.mem_map.1 hm
    exact block_ne (h.tabs t ht).1.1 (h.inds x (List.mem_filter.1 hx).1).1 (by decide) he.symm
  · exact h.ionce.sublist ((List.filter_sublist).map _)
theorem drop_end (h : BookAt c k w p tv iv T I last) (hl : LogAt cl kl w pl f L) {s : Snp} {rv : Value} (hr : Run w rv s.run) {t : Nat × Ent × Value} (ht : t ∈ T) {v : Value}
    (hrow : w.ownsRow 0 151 1 v (dropB f L s t I).length (ptrs (dropB f L s t I))) :
    Calls Try.prog 69 #[.pointer (some ⟨pl, 0, none⟩), s.val rv, v] w fun r w' =>
      ((∃ e ∈ dropE f L s t I, freeE f L s e.xmin e.xmax ≠ 0) ∧ r = .returned (.int .i64 11) ∧ Below w.heap.size w w') ∨
      ((∀ e ∈ dropE f L s t I, freeE f L s e.xmin e.xmax = 0) ∧ r = .returned (.int .i64 0) ∧ w'.cell? ⟨t.1, 0, none⟩ = some (.int .u64 t.2.1.id) ∧ BookAt c k w' p tv iv (endT (dropB f L s t I) s.own T) (endI (dropB f L s t I) s.own I) last ∧ Upd (fun b => b ∈ dropB f L s t I) w w') := by
  have hvl := visI_len f L s t.2.1.id I
  have hil := h.ilen
  have hlen : (dropE f L s t I).length = (dropB f L s t I).length := by simp [dropB, dropE]
  have hbl : (dropB f L s t I).length ≤ 1000 := by simp only [dropB, List.length_cons, List.length_map]; omega
  have hent : ∀ i (h1 : i < (dropB f L s t I).length) (h2 : i < (dropE f L s t I).length), EntAt w (dropB f L s t I)[i] (dropE f L s t I)[i] := fun i h1 h2 => by
    match i, h1, h2 with
    | 0, _, _ => exact (h.tabs t ht).1.ent
    | i + 1, h1, h2 =>
      simp only [dropB, dropE, List.getElem_cons_succ, List.getElem_map]
      exact (h.inds _ (List.mem_filter.1 (List.getElem_mem _)).1).1.ent
  have hblk : ∀ b ∈ dropB f L s t I, ∃ cs t, w.heap[b]? = some (.cells cs t (0, 0)) ∧ t ≠ 151 := fun b hb => by
    rcases dropB_in h ht b hb with hb | hb
    · obtain ⟨x, hx, rfl⟩ := List.mem_map.1 hb
      exact ⟨_, _, (h.tabs x hx).1.1, by decide⟩
    · obtain ⟨x, hx, rfl⟩ := List.mem_map.1 hb
      exact ⟨_, _, (h.inds x hx).1, by decide⟩
  refine (end_book hl hr hrow hlen hbl hent hblk (dropB_once h ht) ?_).mono fun r w' hp => ?_
  · by_cases hc : ∀ e ∈ dropE f L s t I, freeE f L s e.xmin e.xmax = 0
    · exact .inl hc
    · simp only [Classical.not_forall] at hc
      obtain ⟨e, he, h0⟩ := hc
      exact .inr ⟨e, he, h0⟩
  · rcases hp with hp | ⟨h1, h2, h3, h4⟩
    · exact .inl hp
    · refine .inr ⟨h1, h2, ?_, h.ended h3 h4 (dropB_in h ht), h3⟩
      have := h4 t.1 List.mem_cons_self _ _ (h.tabs t ht).1.1
      exact cell_of_block this rfl

set_option maxHeartbeats 1000000 in
set_option maxRecDepth 100000 in
/-- (*book.Book).DropTable: a table that the snapshot sees. -/
theorem drop_some (h : BookAt c k w p tv iv T I last) (hl : LogAt cl kl w pl f L) {s : Snp} {rv : Value} (hr : Run w rv s.run) (name : ByteArray) {t : Nat × Ent × Value} (hf : findT f L s name T = some t) :
    Calls Try.prog 52 #[.pointer (some ⟨p, 0, none⟩), .pointer (some ⟨pl, 0, none⟩), s.val rv, .string name] w fun r w' =>
      ((∃ e ∈ dropE f L s t I, freeE f L s e.xmin e.xmax ≠ 0) ∧ r = .returned (.tuple #[.int .u64 0, .int .i64 11]) ∧ Below w.heap.size w w') ∨
      ((∀ e ∈ dropE f L s t I, freeE f L s e.xmin e.xmax = 0) ∧ r = .returned (.tuple #[.int .u64 t.2.1.id, .int .i64 0]) ∧ BookAt c k w' p tv iv (endT (dropB f L s t I) s.own T) (endI (dropB f L s t I) s.own I) last ∧ Upd (fun b => b ∈ dropB f L s t I) w w') := by
  obtain ⟨i0, hi, hz0, hz1, hz2⟩ := info_parts Try.info151
  have ht := findT_mem hf
  have htab : ∀ w', Below w.heap.size w w' → Calls Try.prog 67 #[.pointer (some ⟨p, 0, none⟩), .pointer (some ⟨pl, 0, none⟩), s.val rv, .string name] w' fun r w'' => r = .returned (.pointer (some ⟨t.1, 0, none⟩)) ∧ Below w'.heap.size w' w'' := fun w' hb => by
    have := table_at (h.same hb) (hl.same hb) (hr.same hb) name
    rw [hf] at this
    exact this
  have hvis : ∀ w', Below w.heap.size w w' → ∀ x ∈ I, Calls Try.prog 68 #[.pointer (some ⟨x.1, 0, none⟩), .pointer (some ⟨pl, 0, none⟩), s.val rv] w' fun r w'' => r = .returned (.bool (vis f L s x.2.1.xmin x.2.1.xmax)) ∧ Below w'.heap.size w' w'' := fun w' hb x hx =>
    evis_at (hl.same hb) ((h.inds x hx).1.ent.same hb) (hr.same hb)
  have hend : ∀ w', Below w.heap.size w w' → ∀ v, w'.ownsRow 0 151 1 v (dropB f L s t I).length (ptrs (dropB f L s t I)) → Calls Try.prog 69 #[.pointer (some ⟨pl, 0, none⟩), s.val rv, v] w' fun r w'' =>
      ((∃ e ∈ dropE f L s t I, freeE f L s e.xmin e.xmax ≠ 0) ∧ r = .returned (.int .i64 11) ∧ Below w'.heap.size w' w'') ∨
      ((∀ e ∈ dropE f L s t I, freeE f L s e.xmin e.xmax = 0) ∧ r = .returned (.int .i64 0) ∧ w''.cell? ⟨t.1, 0, none⟩ = some (.int .u64 t.2.1.id) ∧ BookAt c k w'' p tv iv (endT (dropB f L s t I) s.own T) (endI (dropB f L s t I) s.own I) last ∧ Upd (fun b => b ∈ dropB f L s t I) w' w'') := fun w' hb v hv =>
    drop_end (h.same hb) (hl.same hb) (hr.same hb) ht hv
  have htc : w.cell? ⟨t.1, 0, none⟩ = some (.int .u64 t.2.1.id) := cell_of_block (h.tabs t ht).1.1 rfl
  have hind : ∀ x ∈ I, w.cell? ⟨x.1, 4, none⟩ = some (.int .u64 x.2.2) := fun x hx => cell_of_block (h.inds x hx).1 rfl
  have hBL : (dropB f L s t I).length = 1 + (visI f L s t.2.1.id (I.take I.length)).length := by simp [dropB, Nat.add_comm]
  have hBE : dropB f L s t I = [t.1] ++ (visI f L s t.2.1.id (I.take I.length)).map (·.1) := by simp [dropB]
  have hnx := fun n (hn : n < I.length) => visI_snoc (f := f) (L := L) (s := s) (tid := t.2.1.id) hn
  have hvl : ∀ n, (visI f L s t.2.1.id (I.take n)).length ≤ n := fun n => Nat.le_trans (visI_len ..) (by simp; omega)
  have hv0 : visI f L s t.2.1.id (I.take 0) = [] := rfl
  obtain ⟨V, hV⟩ : ∃ V : Nat → List (Nat × Ent × Int), V = fun n => visI f L s t.2.1.id (I.take n) := ⟨_, rfl⟩
  have hV' : ∀ n, visI f L s t.2.1.id (I.take n) = V n := fun n => by rw [hV]
  simp only [hV'] at hBL hBE hnx hvl hv0
  obtain ⟨DB, hDB⟩ : ∃ DB, DB = dropB f L s t I := ⟨_, rfl⟩
  obtain ⟨DE, hDE⟩ : ∃ DE, DE = dropE f L s t I := ⟨_, rfl⟩
  rw [← hDB] at hend hBL hBE ⊢
  rw [← hDE] at hend ⊢
  obtain ⟨tb, htb⟩ : ∃ tb, tb = t.1 := ⟨_, rfl⟩
  obtain ⟨tid, htid⟩ : ∃ tid, tid = t.2.1.id := ⟨_, rfl⟩
  rw [← htb] at htab hend htc hBE
  rw [← htid] at hend htc hnx ⊢
  clear hV hV' hDB hDE htb htid hf ht
  obtain ⟨own, xmin, xmax, run⟩ := s
  unfold Snp.val at htab hvis hend ⊢
  obtain ⟨ra, rc, hrv⟩ := ownsRow_slice hr.1
  subst hrv
  simp only at htab hvis hend ⊢
  have k1 := cell_of_block h.blk (i := 1) rfl
  obtain ⟨ia, ic, hiv⟩ := ownsRow_slice h.irow
  have hir := h.irow
  have hil := h.ilen
  subst hiv
  have k1' : w.cell? ⟨p, 1, none⟩ = some (.slice ia I.length ic) := k1
  have HT := Lib.hid htab; have HVIS := Lib.hid hvis; have HEND := Lib.hid hend; have HIND := Lib.hid hind; have HIR := Lib.hid hir; have HBL := Lib.hid hBL; have HBE := Lib.hid hBE; have HNX := Lib.hid hnx; have HVL := Lib.hid hvl; have HV0 := Lib.hid hv0
  have hal : Below w.heap.size w (w.alloc (.cells #[.int .u64 own, .int .u64 xmin, .int .u64 xmax, .slice ra run.length rc] 66)) := (Below.refl _ _).alloc (Nat.le_refl _) _
  have hH := heap_new1 w (.cells #[.int .u64 own, .int .u64 xmin, .int .u64 xmax, .slice ra run.length rc] 66)
  clear htab hvis hend hind hir hBL hBE hnx hvl hv0 h hl hr k1
  go_enter Try.func52, Try.ntmps52
  go_wp2_with fail
  obtain ⟨wz, hwz⟩ : ∃ wz, wz = w.alloc (.cells #[.int .u64 own, .int .u64 xmin, .int .u64 xmax, .slice ra run.length rc] 66) := ⟨_, rfl⟩
  obtain ⟨q, hq⟩ : ∃ q, q = w.heap.size := ⟨_, rfl⟩
  rw [← hwz] at hal hH
  rw [← hq] at hH
  rw [← hwz, ← hq]
  have q0 := cell_of_block hH (i := 0) rfl
  have q1 := cell_of_block hH (i := 1) rfl
  have q2 := cell_of_block hH (i := 2) rfl
  have q3 := cell_of_block hH (i := 3) rfl
  clear hwz hq hH
  go_wp2_with fail
  refine (HT.out _ hal).mono ?_
  rintro e w1 ⟨rfl, hk1⟩
  have hB1 := hal.trans (hk1.mono hal.size)
  have k1r := keeper hB1 k1'
  have htc1 := keeper hB1 htc
  have hal2 : Below w1.heap.size w1 (w1.alloc (.cells #[.pointer (some ⟨tb, 0, none⟩)] 151)) := (Below.refl _ _).alloc (Nat.le_refl _) _
  have k1a := keeper hal2 k1r
  go_wp2_with fail
  have hown0 : (w1.alloc (.cells #[.pointer (some ⟨tb, 0, none⟩)] 151)).ownsRow wz.heap.size 151 1 (.slice (some ⟨w1.heap.size, 0, none⟩) 1 1) (1 + (V 0).length) (ptrs ([tb] ++ (V 0).map (·.1))) := by
    rw [HV0.out]
    exact ⟨by rfl, .inr ⟨w1.heap.size, 1, #[.pointer (some ⟨tb, 0, none⟩)], rfl, hk1.size, heap_new1 w1 _, by decide, by decide, rfl, rfl⟩⟩
  have hB2 := hB1.trans (hal2.mono hB1.size)
  have hQ : Below wz.heap.size wz (w1.alloc (.cells #[.pointer (some ⟨tb, 0, none⟩)] 151)) := hk1.trans (hal2.mono hk1.size)
  obtain ⟨w2, hw2⟩ : ∃ w2, w2 = w1.alloc (.cells #[.pointer (some ⟨tb, 0, none⟩)] 151) := ⟨_, rfl⟩
  obtain ⟨a0, ha0⟩ : ∃ a0, a0 = w1.heap.size := ⟨_, rfl⟩
  rw [← hw2] at hB2 hQ hown0 k1a
  rw [← ha0] at hown0
  rw [← hw2, ← ha0]
  clear hw2 ha0 k1a k1r htc1 hal2
  go_loopw [11, 33] (fun v i wr => ∃ n : Nat, n ≤ I.length ∧ i = .int .i64 n ∧ wr.ownsRow wz.heap.size 151 1 v (1 + (V n).length) (ptrs ([tb] ++ (V n).map (·.1))) ∧ Below w.heap.size w wr ∧ Below wz.heap.size wz wr) (fun _ i _ => I.length - (intOf i).toNat)
  case atStart => exact ⟨0, Nat.zero_le _, rfl, hown0, hB2, hQ⟩
  case round =>
    obtain ⟨n, hn, rfl, hown, hB, hBz⟩ := hrel
    have hwn : ∀ b, u11.ownBlock = some b → wz.heap.size ≤ b := fun b hb => (World.ownsRow.lt hown b hb).1
    have HWN := Lib.hid hwn; clear hwn
    have hz := hB.size
    have hvn := HVL.out n
    by_cases hlt : n < I.length
    · obtain ⟨g, cp, hg, cg⟩ := ptrs_at HIR.out (i := n) (by simpa using hlt)
      simp only [Value.slice.injEq] at hg
      obtain ⟨rfl, _, rfl⟩ := hg
      have cg' := keeper hB cg
      simp only [List.getElem_map] at cg'
      have hm : I[n] ∈ I := List.getElem_mem hlt
      have c4 := keeper hB (HIND.out _ hm)
      have hv1 := fun w' hb => HVIS.out w' hb _ hm
      have hnx := HNX.out n hlt
      obtain ⟨x, hx⟩ : ∃ x, x = I[n] := ⟨_, rfl⟩
      rw [← hx] at cg' c4 hv1 hnx
      obtain ⟨vb, hvb⟩ : ∃ vb, vb = vis f L ⟨own, xmin, xmax, run⟩ x.2.1.xmin x.2.1.xmax := ⟨_, rfl⟩
      rw [← hvb] at hv1 hnx
      have HV1 := Lib.hid hv1; have HN := Lib.hid hnx
      have htc1 := keeper hB htc
      obtain ⟨b, hb⟩ : ∃ b, b = x.1 := ⟨_, rfl⟩
      obtain ⟨xt, hxt⟩ : ∃ xt, xt = x.2.2 := ⟨_, rfl⟩
      rw [← hb] at cg' c4 HV1
      rw [← hxt] at c4
      have HXT := Lib.hid hxt; have HB := Lib.hid hb
      clear hnx hv1 hx hvb hm cg hb hxt
      by_cases he : xt = tid
      · subst he
        have p0 := keeper hBz q0
        have p1 := keeper hBz q1
        have p2 := keeper hBz q2
        have p3 := keeper hBz q3
        have hC0 : Below wr.heap.size wr wr.drew := below_drewN (n := 1)
        have hBd := hB.trans (hC0.mono hB.size)
        go_wp2_with fail
        go_region_held3 (fun z => z.cell? ⟨b, 4, none⟩ = some (.int .u64 xt) ∧ z.cell? ⟨tb, 0, none⟩ = some (.int .u64 xt) ∧ z.cell? ⟨q, 0, none⟩ = some (.int .u64 own) ∧ z.cell? ⟨q, 1, none⟩ = some (.int .u64 xmin) ∧ z.cell? ⟨q, 2, none⟩ = some (.int .u64 xmax) ∧ z.cell? ⟨q, 3, none⟩ = some (.slice ra run.length rc))
          (first | exact ⟨keeper hC1 c4, keeper hC1 htc1, keeper hC1 p0, keeper hC1 p1, keeper hC1 p2, keeper hC1 p3⟩ | exact ⟨keeper hC0 c4, keeper hC0 htc1, keeper hC0 p0, keeper hC0 p1, keeper hC0 p2, keeper hC0 p3⟩)
          (first | (go_at_call 68; (with_reducible refine (HV1.out _ hBd).mono ?_); rintro e w2 ⟨rfl, hk2⟩; have hC1 := hC0.trans (hk2.mono hC0.size)))
        cases vb with
        | true =>
          have hVn : V (n + 1) = V n ++ [x] := by have := HN.out; rwa [if_pos ⟨HXT.out.symm, rfl⟩] at this
          have hlen : 1 + (V (n + 1)).length = 1 + (V n).length + 1 := by rw [hVn]; simp; omega
          have hptr : ptrs ([tb] ++ (V (n + 1)).map (·.1)) = ptrs ([tb] ++ (V n).map (·.1)) ++ [.pointer (some ⟨b, 0, none⟩)] := by
            rw [hVn, List.map_append, ← List.append_assoc]
            rw [HB.out]
            exact ptrs_snoc _ _
          obtain ⟨m, hm⟩ : ∃ m, m = 1 + (V n).length := ⟨_, rfl⟩
          have hml : m ≤ 17 := by omega
          rw [← hm] at hlen hown
          have HLEN := Lib.hid hlen; have HPTR := Lib.hid hptr
          have hown1 := ownsRow_upd hown (S := fun _ => False) (Upd.same hC1) (fun _ _ x => x)
          have hB3 := hB.trans (hC1.mono hB.size)
          have hz3 : wz.heap.size ≤ w2.heap.size := (hBz.trans (hC1.mono hBz.size)).size
          clear hVn hlen hptr hm
          go_wp2_with (at_builtin; refine wpList_append_mine rfl (.tmp 55) (.tmp 59) 152 rfl wz.heap.size 151 i0 (.pointer none) 1 8 Try.underlying152 hi hz0 hz1 hz2 rfl (by decide) _ _ _ rfl (World.ownsRow.alloc hown1 _) ⟨w2.heap.size, 0, none⟩ 1 1 [.pointer (some ⟨b, 0, none⟩)] rfl rfl ?c1 ?c2 ?c3 ?c4 ?c5 ?_)
          case c2 => first | rfl | (intro u hu; simp at hu; subst hu; rfl)
          case c3 => unfold maxLen; omega
          case c4 => first | omega | (simp; omega)
          case c5 => first | omega | (simp; omega)
          intro v' w5 hown' hupd hnew
          have hbz5 : Below wz.heap.size w2 w5 := Upd.below (S := fun b => u11.ownBlock = some b) ((Upd.same ((Below.refl _ _).alloc (Nat.le_refl _) _)).trans hupd) (hBz.trans (hC1.mono hBz.size)).size (fun b hb e => by have := HWN.out _ e; omega)
          have hb5 : Below w.heap.size w2 w5 := hbz5.mono hal.size
          go_wp2_with fail
          go_roundw
          case rel => exact ⟨n + 1, by omega, by go_num, by rw [HLEN.out, HPTR.out]; exact hown', hB3.trans hb5, hBz.trans ((hC1.mono hBz.size).trans hbz5)⟩
          case measure => simp [intOf]; omega
        | false =>
          have hVn : V (n + 1) = V n := by have := HN.out; rwa [if_neg (fun y => by cases y.2)] at this
          go_wp2_with fail
          go_roundw
          case rel => exact ⟨n + 1, by omega, by go_num, by rw [hVn]; exact ownsRow_upd hown (S := fun _ => False) (Upd.same hC1) (fun _ _ x => x), hB.trans (hC1.mono hB.size), hBz.trans (hC1.mono hBz.size)⟩
          case measure => simp [intOf]; omega
      · have hVn : V (n + 1) = V n := by have := HN.out; rwa [if_neg (fun y => he (HXT.out.trans y.1))] at this
        have HVN := Lib.hid hVn
        clear hVn
        go_wp2_with fail
        go_quiet (fail)
        go_wp2_with fail
        go_roundw
        case rel => exact ⟨n + 1, by omega, by go_num, by rw [HVN.out]; exact ownsRow_upd hown (S := fun _ => False) (Upd.same below_drewN) (fun _ _ x => x), hB.trans below_drewN, hBz.trans below_drewN⟩
        case measure => simp [intOf]; omega
    · have hnl : n = I.length := by omega
      subst hnl
      have p0 := keeper hBz q0
      have p1 := keeper hBz q1
      have p2 := keeper hBz q2
      have p3 := keeper hBz q3
      have hE : Calls Try.prog 69 #[.pointer (some ⟨pl, 0, none⟩), .agg #[.int .u64 own, .int .u64 xmin, .int .u64 xmax, .slice ra run.length rc], u11] wr _ := HEND.out wr hB u11 (by rw [HBL.out, HBE.out]; exact ownsRow_base hown (Nat.zero_le _))
      have HE := Lib.hid hE
      clear hE hown
      go_wp2_with fail
      refine HE.out.mono ?_
      rintro e w3 (⟨⟨e1, hm1, h01⟩, rfl, hk3⟩ | ⟨hall, rfl, hc3, hb3, hu3⟩)
      · have H0 := Lib.hid (show ∃ e ∈ DE, freeE f L ⟨own, xmin, xmax, run⟩ e.xmin e.xmax ≠ 0 from ⟨e1, hm1, h01⟩)
        clear hm1 h01
        go_wp2_with fail
        go_ret2
        exact .inl ⟨H0.out, rfl, hB.trans (hk3.mono hB.size)⟩
      · have HA := Lib.hid hall; have HB3 := Lib.hid hb3
        clear hall hb3
        go_wp2_with fail
        go_ret2
        exact .inr ⟨HA.out, rfl, HB3.out, (Upd.same (S := fun b => b ∈ DB) hB).trans hu3⟩
end
end Go.Proofs.Ytdohkjpapmkhjaa
