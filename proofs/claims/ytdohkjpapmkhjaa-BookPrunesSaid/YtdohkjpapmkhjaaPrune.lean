/-
  (*book.Book).Prune: those that are dead are no more.
-/
import Derived.Test.YtdohkjpapmkhjaaDelAny
namespace Go.Proofs.Ytdohkjpapmkhjaa
open Go.RowKit

def deadT (f : Int) (L : List Nat) (hz : Int) (t : Nat × Ent × Value) : Bool := deadB f L t.2.1.xmin t.2.1.xmax hz
def deadIds (f : Int) (L : List Nat) (hz : Int) (T : List (Nat × Ent × Value)) : List Int := (T.filter (deadT f L hz)).map fun t => t.2.1.id
def deadI (f : Int) (L : List Nat) (hz : Int) (T : List (Nat × Ent × Value)) (x : Nat × Ent × Int) : Bool := deadB f L x.2.1.xmin x.2.1.xmax hz || (deadIds f L hz T).contains x.2.2

section
variable {c : Nat → Nat} {k kl p pl : Nat} {w w' : World} {tv iv : Value} {T : List (Nat × Ent × Value)} {I : List (Nat × Ent × Int)} {last : Int} {f : Int} {L : List Nat}
/-- What the first closure keeps. -/
structure Inv1 (c : Nat → Nat) (kl : Nat) (pl : Nat) (f : Int) (L : List Nat) (hz : Int) (T : List (Nat × Ent × Value)) (B q1 q2 q3 : Nat) (w : World) (ids : List Int) : Prop where
  l : LogAt c kl w pl f L
  e : ∀ t ∈ T, EntAt w t.1 t.2.1
  c1 : w.cell? ⟨q1, 0, none⟩ = some (.pointer (some ⟨pl, 0, none⟩))
  c2 : w.cell? ⟨q2, 0, none⟩ = some (.int .u64 hz)
  g : Gath B w q3 ids
  s : B ≤ w.heap.size
theorem Inv1.upd {hz : Int} {B q1 q2 q3 : Nat} {ids : List Int} {S : Nat → Prop} (h : Inv1 c kl pl f L hz T B q1 q2 q3 w ids) (u : Upd S w w') (h0 : ∀ b, c b = kl → ¬ S b) (h1 : ∀ t ∈ T, ¬ S t.1) (h2 : ¬ S q1) (h3 : ¬ S q2) (h4 : ¬ S q3) (h5 : ∀ b, B ≤ b → b < w.heap.size → ¬ S b) : Inv1 c kl pl f L hz T B q1 q2 q3 w' ids :=
  ⟨h.l.upd u h0, fun t ht => (h.e t ht).upd u (h1 t ht), u.cell h.c1 h2, u.cell h.c2 h3, h.g.upd u h4 h5, Nat.le_trans h.s u.size⟩
/-- What the second closure keeps. -/
structure Inv2 (c : Nat → Nat) (kl : Nat) (pl : Nat) (f : Int) (L : List Nat) (hz : Int) (I : List (Nat × Ent × Int)) (tids : List Int) (rv : Value) (B q1 q2 q3 q4 : Nat) (w : World) (ids : List Int) : Prop where
  l : LogAt c kl w pl f L
  e : ∀ t ∈ I, EntAt w t.1 t.2.1 ∧ w.cell? ⟨t.1, 4, none⟩ = some (.int .u64 t.2.2)
  c1 : w.cell? ⟨q1, 0, none⟩ = some (.pointer (some ⟨pl, 0, none⟩))
  c2 : w.cell? ⟨q2, 0, none⟩ = some (.int .u64 hz)
  c3 : w.cell? ⟨q3, 0, none⟩ = some rv
  r : Run w rv tids
  g : Gath B w q4 ids
  s : B ≤ w.heap.size
theorem Inv2.upd {hz : Int} {tids : List Int} {rv : Value} {B q1 q2 q3 q4 : Nat} {ids : List Int} {S : Nat → Prop} (h : Inv2 c kl pl f L hz I tids rv B q1 q2 q3 q4 w ids) (u : Upd S w w') (h0 : ∀ b, c b = kl → ¬ S b) (h1 : ∀ t ∈ I, ¬ S t.1) (h2 : ¬ S q1) (h3 : ¬ S q2) (h3' : ¬ S q3) (h3r : ∀ b, rv.ownBlock = some b → ¬ S b) (h4 : ¬ S q4) (h5 : ∀ b, B ≤ b → b < w.heap.size → ¬ S b) : Inv2 c kl pl f L hz I tids rv B q1 q2 q3 q4 w' ids :=
  ⟨h.l.upd u h0, fun t ht => ⟨(h.e t ht).1.upd u (h1 t ht), u.cell (h.e t ht).2 (h1 t ht)⟩, u.cell h.c1 h2, u.cell h.c2 h3, u.cell h.c3 h3', h.r.upd u h3r, h.g.upd u h4 h5, Nat.le_trans h.s u.size⟩

set_option maxHeartbeats 4000000 in
set_option maxRecDepth 100000 in
/-- (*book.Book).Prune. -/
theorem prune_at (h : BookAt c k w p tv iv T I last) (hl : LogAt c kl w pl f L) (hk : k ≠ kl) (hz : Int) :
    Calls Try.prog 57 #[.pointer (some ⟨p, 0, none⟩), .pointer (some ⟨pl, 0, none⟩), .int .u64 hz] w fun r w' => ∃ r' tv' iv', r = .returned r' ∧
      BookAt c k w' p tv' iv' (T.filter fun t => !deadT f L hz t) (I.filter fun x => !deadI f L hz T x) last ∧ Upd (fun b => c b = k) w w' := by
  have hpw := lt_of_block h.blk
  have htl := h.tlen
  have hil := h.ilen
  have HH := Lib.hid h; have HL := Lib.hid hl
  -- the blocks that are made first
  have hal : Below w.heap.size w ((((w.alloc (.cells #[.pointer (some ⟨pl, 0, none⟩)] 24)).alloc (.cells #[.int .u64 hz] 23)).alloc (.cells #[.slice none 0 0] 30)).alloc (.cells #[.slice none 0 0] 30)) := (((((Below.refl _ _).alloc (Nat.le_refl _) _).alloc (by simp) _).alloc (by simp; omega) _).alloc (by simp; omega) _)
  have hh1 : ((((w.alloc (.cells #[.pointer (some ⟨pl, 0, none⟩)] 24)).alloc (.cells #[.int .u64 hz] 23)).alloc (.cells #[.slice none 0 0] 30)).alloc (.cells #[.slice none 0 0] 30)).heap[w.heap.size]? = some (Obj.cells #[.pointer (some ⟨pl, 0, none⟩)] 24) := block_alloc (block_alloc (block_alloc (heap_new1 _ _) _) _) _
  have hh2 : ((((w.alloc (.cells #[.pointer (some ⟨pl, 0, none⟩)] 24)).alloc (.cells #[.int .u64 hz] 23)).alloc (.cells #[.slice none 0 0] 30)).alloc (.cells #[.slice none 0 0] 30)).heap[w.heap.size + 1]? = some (Obj.cells #[.int .u64 hz] 23) := block_alloc (block_alloc (heap_new2 _ _ _) _) _
  have hh3 : ((((w.alloc (.cells #[.pointer (some ⟨pl, 0, none⟩)] 24)).alloc (.cells #[.int .u64 hz] 23)).alloc (.cells #[.slice none 0 0] 30)).alloc (.cells #[.slice none 0 0] 30)).heap[w.heap.size + 1 + 1]? = some (Obj.cells #[.slice none 0 0] 30) := by
    have := heap_new2 (w.alloc (.cells #[.pointer (some ⟨pl, 0, none⟩)] 24)) (.cells #[.int .u64 hz] 23) (.cells #[.slice none 0 0] 30)
    exact block_alloc (by simpa using this) _
  have hh4 : ((((w.alloc (.cells #[.pointer (some ⟨pl, 0, none⟩)] 24)).alloc (.cells #[.int .u64 hz] 23)).alloc (.cells #[.slice none 0 0] 30)).alloc (.cells #[.slice none 0 0] 30)).heap[w.heap.size + 1 + 1 + 1]? = some (Obj.cells #[.slice none 0 0] 30) := by
    have := heap_new2 ((w.alloc (.cells #[.pointer (some ⟨pl, 0, none⟩)] 24)).alloc (.cells #[.int .u64 hz] 23)) (.cells #[.slice none 0 0] 30) (.cells #[.slice none 0 0] 30)
    simpa using this
  have hsz : ((((w.alloc (.cells #[.pointer (some ⟨pl, 0, none⟩)] 24)).alloc (.cells #[.int .u64 hz] 23)).alloc (.cells #[.slice none 0 0] 30)).alloc (.cells #[.slice none 0 0] 30)).heap.size = w.heap.size + 4 := by simp
  clear h hl
  go_enter Try.func57, Try.ntmps57
  go_upto_region 4 with fail
  obtain ⟨w4, hw4⟩ : ∃ w4, w4 = ((((w.alloc (.cells #[.pointer (some ⟨pl, 0, none⟩)] 24)).alloc (.cells #[.int .u64 hz] 23)).alloc (.cells #[.slice none 0 0] 30)).alloc (.cells #[.slice none 0 0] 30)) := ⟨_, rfl⟩
  obtain ⟨q4, hq4⟩ : ∃ q4, q4 = w.heap.size + 1 + 1 + 1 := ⟨_, rfl⟩
  obtain ⟨q3, hq3⟩ : ∃ q3, q3 = w.heap.size + 1 + 1 := ⟨_, rfl⟩
  obtain ⟨q2, hq2⟩ : ∃ q2, q2 = w.heap.size + 1 := ⟨_, rfl⟩
  obtain ⟨q1, hq1⟩ : ∃ q1, q1 = w.heap.size := ⟨_, rfl⟩
  rw [← hw4] at hal hh1 hh2 hh3 hh4 hsz ⊢
  rw [← hq4] at hh4 ⊢
  rw [← hq3] at hh3 ⊢
  rw [← hq2] at hh2 ⊢
  rw [← hq1] at hh1 ⊢
  clear hw4
  obtain ⟨B, hB⟩ : ∃ B, B = w4.heap.size := ⟨_, rfl⟩
  have hqs : q1 = w.heap.size ∧ q2 = w.heap.size + 1 ∧ q3 = w.heap.size + 2 ∧ q4 = w.heap.size + 3 ∧ B = w.heap.size + 4 := by omega
  have HQS := Lib.hid hqs; have HAL := Lib.hid hal; have HBB := Lib.hid hB
  obtain ⟨cc, hcc⟩ : ∃ cc, cc = col c w.heap.size (kl + 1) := ⟨_, rfl⟩
  have hcnew : ∀ b, w.heap.size ≤ b → cc b ≠ kl := fun b hb => by rw [hcc, col_new hb]; omega
  have hcold : ∀ b, b < w.heap.size → cc b = c b := fun b hb => by rw [hcc]; exact col_old hb
  have hl4 : LogAt cc kl w4 pl f L := (HL.out.recol hcold).same hal
  have htvB : ∀ g, tv.ownBlock = some g → g < w.heap.size ∧ cc g ≠ kl ∧ (∀ t ∈ T, t.1 ≠ g) ∧ g ≠ p := fun g hg => by
    obtain ⟨cu, k1⟩ := row_block HH.out.trow hg
    have hlt := lt_of_block k1
    exact ⟨hlt, by rw [hcold g hlt, HH.out.ct g hg]; exact hk, fun t ht => block_ne (HH.out.tabs t ht).1.1 k1 (by decide), block_ne k1 HH.out.blk (by decide)⟩
  have hivB : ∀ g, iv.ownBlock = some g → g < w.heap.size ∧ cc g ≠ kl ∧ (∀ t ∈ I, t.1 ≠ g) ∧ g ≠ p := fun g hg => by
    obtain ⟨cu, k1⟩ := row_block HH.out.irow hg
    have hlt := lt_of_block k1
    exact ⟨hlt, by rw [hcold g hlt, HH.out.ci g hg]; exact hk, fun t ht => block_ne (HH.out.inds t ht).1 k1 (by decide), block_ne k1 HH.out.blk (by decide)⟩
  have hTB : ∀ t ∈ T, t.1 < w.heap.size := fun t ht => lt_of_block (HH.out.tabs t ht).1.1
  have hIB : ∀ t ∈ I, t.1 < w.heap.size := fun t ht => lt_of_block (HH.out.inds t ht).1
  have hi4 : Inv1 cc kl pl f L hz T B q1 q2 q3 w4 [] := ⟨hl4, fun t ht => ((HH.out.tabs t ht).1.ent).same hal, cell_of_block hh1 rfl, cell_of_block hh2 rfl, ⟨_, hh3, World.ownsRow_nil _ _ _ _⟩, by omega⟩
  have hdel := delete_any_tab (w := w4) (q1 := q1) (q2 := q2) (q3 := q3) (sv := tv) (bs := T.map (·.1)) (dd := fun i => (T[i]?.map (deadT f L hz)).getD false) (idf := fun i => (T[i]?.map fun t => t.2.1.id).getD 0) (Inv := Inv1 cc kl pl f L hz T B q1 q2 q3) (S := fun b => b = q3 ∨ B ≤ b)
    (fun w' ids i hi hids hinv => by
      have hiT : i < T.length := by simpa using hi
      have ht := List.getElem_mem hiT
      have hlt := hTB _ ht
      have h := clos_tab hinv.l (hinv.e _ ht) hinv.c1 hinv.c2 hinv.g (by omega) ⟨by omega, by omega, by omega, by omega, by omega, by omega, by omega⟩ hinv.s (fun b hb => hcnew b (by omega))
      have e1 : (T.map (·.1))[i]'hi = T[i].1 := by simp
      have e2 : (T[i]?.map (deadT f L hz)).getD false = deadB f L T[i].2.1.xmin T[i].2.1.xmax hz := by simp [hiT, deadT]
      have e3 : (T[i]?.map fun t => t.2.1.id).getD 0 = T[i].2.1.id := by simp [hiT]
      rw [e1]
      refine h.mono fun r w'' ⟨h1, h2, h3⟩ => ⟨by rw [h1, e2], ?_, h3⟩
      rw [e2, e3]
      have hS : ∀ b, b < w.heap.size → ¬ (b = q3 ∨ B ≤ b) := fun b hb => by omega
      exact ⟨hinv.l.upd h3 (fun b hb hs => hcnew b (by omega) hb), fun t ht => (hinv.e t ht).upd h3 (hS _ (hTB t ht)), h3.cell hinv.c1 (by simp only; omega), h3.cell hinv.c2 (by simp only; omega), h2, Nat.le_trans hinv.s h3.size⟩)
    (fun g hg w' ids j v hinv => by
      obtain ⟨g1, g2, g3, _⟩ := htvB g hg
      have u : Upd (fun b => b = g) w' (w'.setCell ⟨g, j, none⟩ v) := (Upd.refl _ w').setCell (a := ⟨g, j, none⟩) v (fun _ => rfl)
      exact hinv.upd u (fun b hb e => g2 (e ▸ hb)) (fun t ht => g3 t ht) (by omega) (by omega) (by omega) (fun b hb _ => by omega))
    (fun g hg => by have := (htvB g hg).1; omega) (by rw [List.length_map]; exact ownsRow_upd (S := fun _ => False) HH.out.trow (Upd.same hal) (fun _ _ x => x)) (by rw [List.length_map]; omega) hi4
  have ek : kept (T.map (·.1)) (fun i => (T[i]?.map (deadT f L hz)).getD false) (T.map (·.1)).length = (T.filter fun t => !deadT f L hz t).map (·.1) := by
    rw [List.length_map, kept_filter T (·.1) (deadT f L hz) T.length (Nat.le_refl _), List.take_length]
  have eg : gone (fun i => (T[i]?.map fun t => t.2.1.id).getD 0) (fun i => (T[i]?.map (deadT f L hz)).getD false) (T.map (·.1)).length = deadIds f L hz T := by
    rw [List.length_map, gone_filter T (fun t => t.2.1.id) (deadT f L hz) T.length (Nat.le_refl _), List.take_length]; rfl
  rw [ek, eg] at hdel
  obtain ⟨T1, hT1⟩ : ∃ T1, T1 = T.filter fun t => !deadT f L hz t := ⟨_, rfl⟩
  have hT1l : T1.length ≤ 16 := by rw [hT1]; exact Nat.le_trans (List.length_filter_le _ _) htl
  obtain ⟨tids, htids⟩ : ∃ tids, tids = deadIds f L hz T := ⟨_, rfl⟩
  have htidl : tids.length ≤ 1000 := by
    rw [htids]; unfold deadIds
    rw [List.length_map]
    exact Nat.le_trans (List.length_filter_le _ _) (by omega)
  rw [← hT1, ← htids, List.length_map] at hdel
  have HT1 := Lib.hid hT1; have HTID := Lib.hid htids
  have HDEL := Lib.hid hdel
  clear hT1 htids
  have k4 : w4.cell? ⟨p, 0, none⟩ = some tv := keeper hal (cell_of_block HH.out.blk (i := 0) rfl)
  have HP4 := Lib.hid ((Upd.same (S := fun _ => False) hal).heap HH.out.blk id)
  have HC := Lib.hid hcnew; have HTV := Lib.hid htvB; have HIV := Lib.hid hivB; have HTB := Lib.hid hTB; have HIB := Lib.hid hIB; have HH4 := Lib.hid hh4
  have HCO := Lib.hid hcold
  clear hdel ek eg hi4 hl4 hcnew hcold hcc htvB hivB hTB hIB hh1 hh2 hh3 hh4 hsz hqs hal hq1 hq2 hq3 hq4 hB
  obtain ⟨ta, tc, htv⟩ := ownsRow_slice HH.out.trow
  subst htv
  go_wp2_with fail
  refine HDEL.out.mono ?_
  rintro r w5 ⟨v1, rfl, hr5, hv5, hinv5, u5⟩
  have hqs := HQS.out
  obtain ⟨va, vc, hva⟩ := ownsRow_slice hr5
  subst hva
  have hpn : ¬ ((p = q3 ∨ B ≤ p) ∨ (Value.slice ta T.length tc).ownBlock = some p) := fun e => by
    rcases e with e | e
    · omega
    · exact (HTV.out p e).2.2.2 rfl
  have hb5 := u5.heap HP4.out hpn
  have k5 : w5.cell? ⟨p, 0, none⟩ = some (.slice ta T.length tc) := cell_of_block hb5 rfl
  have f5 : w5.frozen? ⟨p, 0, none⟩ = false := free_of_block hb5
  have hus : Upd (fun b => b = p) w5 (w5.setCell ⟨p, 0, none⟩ (.slice va T1.length vc)) := (Upd.refl _ w5).setCell (a := ⟨p, 0, none⟩) _ (fun _ => rfl)
  have hb6 : (w5.setCell ⟨p, 0, none⟩ (.slice va T1.length vc)).heap[p]? = some (.cells #[.slice va T1.length vc, iv, .int .u64 last] 137 (0, 0)) := by rw [block_setCell hb5]; rfl
  have HR5 := Lib.hid hr5; have HV5 := Lib.hid hv5; have HI5 := Lib.hid hinv5
  clear hr5 hv5 hinv5 hqs HDEL
  go_upto_region 5 with fail
  obtain ⟨w6, hw6⟩ : ∃ w6, w6 = w5.setCell ⟨p, 0, none⟩ (.slice va T1.length vc) := ⟨_, rfl⟩
  rw [← hw6] at hus hb6 ⊢
  clear hw6 k5 f5
  have hqs := HQS.out
  obtain ⟨hl5, he5, c15, c25, ⟨sv, hq3b, hsv⟩, hs5⟩ := HI5.out
  have u46 : Upd (fun b => (b = q3 ∨ B ≤ b) ∨ (Value.slice ta T.length tc).ownBlock = some b ∨ b = p) w4 w6 := (u5.mono (fun b _ e => e.imp id .inl)).trans (hus.mono (fun b _ e => .inr (.inr e)))
  have hkq : ∀ b, w.heap.size ≤ b → b ≠ p ∧ (Value.slice ta T.length tc).ownBlock ≠ some b := fun b hb => ⟨by omega, fun e => by have := (HTV.out b e).1; omega⟩
  have hpc : cc p ≠ kl := by rw [HCO.out p hpw, HH.out.cp]; exact hk
  have hl6 : LogAt cc kl w6 pl f L := hl5.upd hus (fun b hb e => hpc (e ▸ hb))
  obtain ⟨B2, hB2⟩ : ∃ B2, B2 = w6.heap.size := ⟨_, rfl⟩
  have hz46 := u46.size
  have hBB := HBB.out
  have hsvlt := fun b hb => World.ownsRow.lt hsv b hb
  have hsv6 : ∀ b, sv.ownBlock = some b → b < B2 ∧ b ≠ q4 ∧ B ≤ b := fun b hb => by
    have h1 := hsvlt b hb
    have h2 := hus.size
    exact ⟨by omega, by omega, h1.1⟩
  have hrun6 : Run w6 sv tids := ⟨ownsRow_upd (ownsRow_base hsv (Nat.zero_le _)) hus (fun b hb e => by have := (hsvlt b hb).1; omega), by omega⟩
  have hinv6 : Inv2 cc kl pl f L hz I tids sv B2 q1 q2 q3 q4 w6 [] := by
    refine ⟨hl6, fun t ht => ?_, hus.cell c15 (by simp only; omega), hus.cell c25 (by simp only; omega), hus.cell (cell_of_block hq3b rfl) (by simp only; omega), hrun6, ⟨_, u46.heap HH4.out (fun e => by
      have h9 := hkq q4 (by omega)
      rcases e with e | e | e
      · omega
      · exact h9.2 e
      · exact h9.1 e), World.ownsRow_nil _ _ _ _⟩, by omega⟩
    have hi := (HH.out.inds t ht).1
    have h4 := (Upd.same (S := fun _ => False) HAL.out).heap hi id
    have hn : ¬ ((t.1 = q3 ∨ B ≤ t.1) ∨ (Value.slice ta T.length tc).ownBlock = some t.1 ∨ t.1 = p) := fun e => by
      have hlt := HIB.out t ht
      rcases e with e | e | e
      · omega
      · obtain ⟨cu, k1⟩ := row_block HH.out.trow e
        exact block_ne hi k1 (by decide) rfl
      · exact block_ne hi HH.out.blk (by decide) e
    have h6 := u46.heap h4 hn
    exact ⟨IndAt.ent (t := t) h6, cell_of_block h6 rfl⟩
  have hrow6 : w6.ownsRow 0 153 1 iv (I.map (·.1)).length (ptrs (I.map (·.1))) := by
    rw [List.length_map]
    refine ownsRow_upd (ownsRow_upd (S := fun _ => False) HH.out.irow (Upd.same HAL.out) (fun _ _ x => x)) u46 (fun b hb e => ?_)
    have hlt := (HIV.out b hb).1
    rcases e with e | e | e
    · omega
    · exact rows_apart HH.out.irow HH.out.trow (by decide) b hb e
    · exact (HIV.out b hb).2.2.2 e
  have hdel := delete_any_ind (w := w6) (q1 := q1) (q2 := q2) (q3 := q3) (q4 := q4) (sv := iv) (bs := I.map (·.1)) (dd := fun i => (I[i]?.map (deadI f L hz T)).getD false) (idf := fun i => (I[i]?.map fun t => t.2.1.id).getD 0) (Inv := Inv2 cc kl pl f L hz I tids sv B2 q1 q2 q3 q4) (S := fun b => b = q4 ∨ B2 ≤ b)
    (fun w' ids i hi hids hinv => by
      have hiT : i < I.length := by simpa using hi
      have ht := List.getElem_mem hiT
      have hlt := HIB.out _ ht
      have h := clos_ind hinv.l (hinv.e _ ht).1 (hinv.e _ ht).2 hinv.c1 hinv.c2 hinv.c3 hinv.r (fun b hb => ⟨(hsv6 b hb).1, (hsv6 b hb).2.1⟩) hinv.g (by omega) ⟨by omega, by omega, by omega, by omega, by omega, by omega, by omega, by omega, by omega⟩ hinv.s (fun b hb => HC.out b (by omega))
      have e1 : (I.map (·.1))[i]'hi = I[i].1 := by simp
      have e2 : (I[i]?.map (deadI f L hz T)).getD false = (deadB f L I[i].2.1.xmin I[i].2.1.xmax hz || tids.contains I[i].2.2) := by rw [HTID.out]; simp [hiT, deadI]
      have e3 : (I[i]?.map fun t => t.2.1.id).getD 0 = I[i].2.1.id := by simp [hiT]
      rw [e1]
      refine h.mono fun r w'' ⟨h1, h2, h3⟩ => ⟨by rw [h1, e2], ?_, h3⟩
      rw [e2, e3]
      have hS : ∀ b, b < w.heap.size → ¬ (b = q4 ∨ B2 ≤ b) := fun b hb => by omega
      exact ⟨hinv.l.upd h3 (fun b hb hs => HC.out b (by omega) hb), fun t ht => ⟨(hinv.e t ht).1.upd h3 (hS _ (HIB.out t ht)), h3.cell (hinv.e t ht).2 (hS _ (HIB.out t ht))⟩, h3.cell hinv.c1 (by simp only; omega), h3.cell hinv.c2 (by simp only; omega), h3.cell hinv.c3 (by simp only; omega), hinv.r.upd h3 (fun b hb => by have := hsv6 b hb; omega), h2, Nat.le_trans hinv.s h3.size⟩)
    (fun g hg w' ids j v hinv => by
      obtain ⟨g1, g2, g3, _⟩ := HIV.out g hg
      have u : Upd (fun b => b = g) w' (w'.setCell ⟨g, j, none⟩ v) := (Upd.refl _ w').setCell (a := ⟨g, j, none⟩) v (fun _ => rfl)
      exact hinv.upd u (fun b hb e => g2 (e ▸ hb)) (fun t ht => g3 t ht) (by omega) (by omega) (by omega) (fun b hb e => by have := hsv6 b hb; omega) (by omega) (fun b hb _ => by omega))
    (fun g hg => by have := (HIV.out g hg).1; omega) hrow6 (by rw [List.length_map]; omega) hinv6
  have ek : kept (I.map (·.1)) (fun i => (I[i]?.map (deadI f L hz T)).getD false) (I.map (·.1)).length = (I.filter fun t => !deadI f L hz T t).map (·.1) := by
    rw [List.length_map, kept_filter I (·.1) (deadI f L hz T) I.length (Nat.le_refl _), List.take_length]
  obtain ⟨I1, hI1⟩ : ∃ I1, I1 = I.filter fun x => !deadI f L hz T x := ⟨_, rfl⟩
  rw [ek, ← hI1, List.length_map] at hdel
  have hdel2 := hdel.mono fun (r : Ending) (w' : World) ⟨v', h1, h2, h3, h4, h5⟩ => (⟨v', h1, h2, h3, ⟨_, h4⟩, h5⟩ : ∃ v', r = Ending.returned v' ∧ w'.ownsRow 0 153 1 v' I1.length (ptrs (I1.map fun (x : Nat × Ent × Int) => x.1)) ∧ (∀ g, v'.ownBlock = some g → iv.ownBlock = some g) ∧ (∃ ids, Inv2 cc kl pl f L hz I tids sv B2 q1 q2 q3 q4 w' ids) ∧ Upd (fun b => (b = q4 ∨ B2 ≤ b) ∨ iv.ownBlock = some b) w6 w')
  have HDEL2 := Lib.hid hdel2; have HI1 := Lib.hid hI1
  clear hI1 hdel2
  have k6 : w6.cell? ⟨p, 1, none⟩ = some iv := cell_of_block hb6 rfl
  have HB6 := Lib.hid hb6; have HU46 := Lib.hid u46; have HRUN := Lib.hid hrun6; have HSV6 := Lib.hid hsv6; have HUS := Lib.hid hus; have HB2 := Lib.hid hB2
  obtain ⟨ia, ic, hiv⟩ := ownsRow_slice HH.out.irow
  subst hiv
  clear hBB hdel ek hrow6 hinv6 hrun6 hsv6 hsvlt hl6 hl5 he5 c15 c25 hq3b hsv u46 hus hb6 hb5 u5 hkq hpc hpn hqs hB2 hz46 hs5
  go_wp2_with fail
  refine HDEL2.out.mono ?_
  rintro r w7 ⟨v2, rfl, hr7, hv7, ⟨ids7, hinv7⟩, u7⟩
  have hqs := HQS.out
  obtain ⟨vb, vd, hvb⟩ := ownsRow_slice hr7
  subst hvb
  have hpn7 : ¬ ((p = q4 ∨ B2 ≤ p) ∨ (Value.slice ia I.length ic).ownBlock = some p) := fun e => by
    have := HB2.out
    have := HU46.out.size
    have := HBB.out
    rcases e with e | e
    · omega
    · exact (HIV.out p e).2.2.2 rfl
  have hb7 := u7.heap HB6.out hpn7
  have k7 : w7.cell? ⟨p, 1, none⟩ = some (.slice ia I.length ic) := cell_of_block hb7 rfl
  have f7 : w7.frozen? ⟨p, 1, none⟩ = false := free_of_block hb7
  have hus7 : Upd (fun b => b = p) w7 (w7.setCell ⟨p, 1, none⟩ (.slice vb I1.length vd)) := (Upd.refl _ w7).setCell (a := ⟨p, 1, none⟩) _ (fun _ => rfl)
  have hb8 : (w7.setCell ⟨p, 1, none⟩ (.slice vb I1.length vd)).heap[p]? = some (.cells #[.slice va T1.length vc, .slice vb I1.length vd, .int .u64 last] 137 (0, 0)) := by rw [block_setCell hb7]; rfl
  have HR7 := Lib.hid hr7; have HV7 := Lib.hid hv7; have HI7 := Lib.hid hinv7
  clear hr7 hv7 hinv7 hqs HDEL2
  go_upto_region 6 with fail
  obtain ⟨w8, hw8⟩ : ∃ w8, w8 = w7.setCell ⟨p, 1, none⟩ (.slice vb I1.length vd) := ⟨_, rfl⟩
  rw [← hw8] at hus7 hb8 ⊢
  clear hw8 k7 f7
  have hqs := HQS.out
  obtain ⟨hl7, he7, c17, c27, c37, hr37, ⟨sv2, hq4b, hsv2⟩, hs7⟩ := HI7.out
  have k38 : w8.cell? ⟨q3, 0, none⟩ = some sv := hus7.cell c37 (by simp only; omega)
  have k48 : w8.cell? ⟨q4, 0, none⟩ = some sv2 := hus7.cell (cell_of_block hq4b rfl) (by simp only; omega)
  have HB8 := Lib.hid hb8; have HUS7 := Lib.hid hus7; have HU7 := Lib.hid u7
  obtain ⟨sa, sc, hsve⟩ := ownsRow_slice HRUN.out.1
  obtain ⟨sa2, sc2, hsve2⟩ := ownsRow_slice hsv2
  rw [hsve] at k38
  rw [hsve2] at k48
  have HSVE := Lib.hid hsve
  clear hl7 he7 c17 c27 c37 hr37 hq4b hsv2 hs7 hqs hb8 hus7 u7 hb7 hpn7 hsve hsve2
  go_wp2_with fail
  go_quiet (fail)
  go_wp2_with fail
  go_ret2
  have hqs := HQS.out
  have hz1 := HU46.out.size
  have hBB := HBB.out
  have hB2 := HB2.out
  have hT1 := HT1.out
  have hI1 := HI1.out
  have hvt : ∀ g, (Value.slice va T1.length vc).ownBlock = some g → g < w.heap.size ∧ g ≠ p ∧ ¬ (Value.slice ia I.length ic).ownBlock = some g := fun g hg => by
    have h1 := HV5.out g hg
    exact ⟨(HTV.out g h1).1, (HTV.out g h1).2.2.2, fun e => rows_apart HH.out.trow HH.out.irow (by decide) g h1 e⟩
  have r6 := ownsRow_upd HR5.out HUS.out (fun b hb e => (hvt b hb).2.1 e)
  have r7 := ownsRow_upd r6 HU7.out (fun b hb e => by
    have := hvt b hb
    rcases e with (e | e) | e
    · omega
    · omega
    · exact this.2.2 e)
  have r8 := ownsRow_upd r7 HUS7.out (fun b hb e => (hvt b hb).2.1 e)
  have s8 := ownsRow_upd HR7.out HUS7.out (fun b hb e => (HIV.out b (HV7.out b hb)).2.2.2 e)
  have uw : Upd (fun b => b = p ∨ (Value.slice ta T.length tc).ownBlock = some b ∨ (Value.slice ia I.length ic).ownBlock = some b ∨ w.heap.size ≤ b) w w8 := by
    refine (((Upd.same HAL.out).trans (HU46.out.mono (fun b _ e => ?_))).trans (HU7.out.mono (fun b _ e => ?_))).trans (HUS7.out.mono (fun b _ e => .inl e))
    · rcases e with e | e | e
      · exact .inr (.inr (.inr (by omega)))
      · exact .inr (.inl e)
      · exact .inl e
    · rcases e with e | e
      · exact .inr (.inr (.inr (by omega)))
      · exact .inr (.inr (.inl e))
  rw [hT1] at r8
  rw [hI1] at s8
  have hb8 := HB8.out
  rw [hT1, hI1] at hb8
  have hv1 := HV5.out
  rw [hT1] at hv1
  have hv2 := HV7.out
  rw [hI1] at hv2
  refine ⟨_, _, _, rfl, HH.out.pruned (uw.drewN nq) hb8 (ownsRow_upd (S := fun _ => False) r8 (Upd.of_drewN nq) (fun _ _ x => x)) (ownsRow_upd (S := fun _ => False) s8 (Upd.of_drewN nq) (fun _ _ x => x)) hv1 hv2, ?_⟩
  refine (uw.drewN nq).mono (fun b hb e => ?_)
  rcases e with e | e | e | e
  · rw [e]; exact HH.out.cp
  · exact HH.out.ct b e
  · exact HH.out.ci b e
  · omega
end
end Go.Proofs.Ytdohkjpapmkhjaa
