/-
  SNAPSHOTS: snap.Take, of any log: who runs but its own, the least of those, how far numbers had come.
-/
import Derived.Test.YtdohkjpapmkhjaaSnap
namespace Go.Proofs.Ytdohkjpapmkhjaa
open Go.RowKit

def least2 (nx : Int) (l : List Int) : Int := l.foldl min nx
def take (f : Int) (L : List Nat) (own : Int) : Snp :=
  ⟨own, least2 (f + L.length) ((running f L).filter (· != own)), f + L.length, (running f L).filter (· != own)⟩

theorem least2_snoc (nx : Int) (l : List Int) (y : Int) : least2 nx (l ++ [y]) = if y < least2 nx l then y else least2 nx l := by
  unfold least2
  rw [List.foldl_append]
  show min _ y = _
  rw [Int.min_def]
  split <;> split <;> omega

section
variable {c : Nat → Nat} {k p : Nat} {w w' : World} {f : Int} {L : List Nat}
set_option maxHeartbeats 1000000 in
set_option maxRecDepth 100000 in
/-- snap.Take. -/
theorem take_at (h : LogAt c k w p f L) (own : Int) :
    Calls Try.prog 36 #[.pointer (some ⟨p, 0, none⟩), .int .u64 own] w fun e w' => ∃ rv, e = .returned ((take f L own).val rv) ∧ Run w' rv (take f L own).run ∧
      (∀ g, rv.ownBlock = some g → w.heap.size ≤ g) ∧ Below w.heap.size w w' := by
  obtain ⟨i0, hi, hz0, hz1, hz2⟩ := info_parts Try.info23
  have hlen : (running f L).length ≤ 1099511627776 := by
    obtain ⟨h1, h2, _⟩ := h
    have := runTo_le f L L.length
    have e : running f L = runTo f L L.length := rfl
    rw [e]; omega
  go_enter Try.func36, Try.ntmps36
  go_wp2_with fail
  refine (next_at (h.same ((Below.refl _ _).alloc (Nat.le_refl _) _))).mono ?_
  rintro e w1 ⟨rfl, n1, rfl⟩
  go_wp2_with fail
  refine (next_at ((h.same ((Below.refl _ _).alloc (Nat.le_refl _) _)).drewN _)).mono ?_
  rintro e w1 ⟨rfl, n2, rfl⟩
  go_wp2_with fail
  obtain ⟨W3, hW3⟩ : ∃ W3, W3 = (((w.alloc (.cells #[.int .u64 0, .int .u64 0, .int .u64 0, .slice none 0 0] 66)).drewN (n1 + n2)).alloc (.cells #[.int .u64 own, .int .u64 (f + L.length), .int .u64 (f + L.length), .slice none 0 0] 66)) := ⟨_, rfl⟩
  have hz3 : W3.heap.size = w.heap.size + 2 := by rw [hW3]; simp
  have hb3 : Below w.heap.size w W3 := by rw [hW3]; exact (((Below.refl _ _).alloc (Nat.le_refl _) _).trans below_drewN).alloc (by simp) _
  have h40 : W3.heap[w.heap.size]? = some (.cells #[.int .u64 0, .int .u64 0, .int .u64 0, .slice none 0 0] 66 (0, 0)) := by rw [hW3]; exact block_alloc (heap_new1 _ _) _
  have h50 : W3.heap[w.heap.size + 1]? = some (.cells #[.int .u64 own, .int .u64 (f + L.length), .int .u64 (f + L.length), .slice none 0 0] 66 (0, 0)) := by
    rw [hW3]; exact heap_new2 (w.drewN (n1 + n2)) _ _
  rw [← hW3]
  have HW := Lib.hid hW3; clear hW3
  refine (all_at (h.same hb3)).mono ?_
  rintro e w4 ⟨av, rfl, own4, b4⟩
  obtain ⟨aa, ca, rfl⟩ := ownsRow_slice own4
  have h41 := (Upd.same (S := fun _ => False) b4).heap h40 id
  have h51 := (Upd.same (S := fun _ => False) b4).heap h50 id
  have hz4 := b4.size
  have hb4 : Below w.heap.size w w4 := hb3.trans (b4.mono hb3.size)
  clear h40 h50
  obtain ⟨xs, hxs⟩ : ∃ xs, xs = running f L := ⟨_, rfl⟩
  obtain ⟨nx, hnx⟩ : ∃ nx, nx = f + (L.length : Int) := ⟨_, rfl⟩
  have ht : take f L own = ⟨own, least2 nx (xs.filter (· != own)), nx, xs.filter (· != own)⟩ := by rw [hnx, hxs]; rfl
  rw [← hxs] at own4 hlen ⊢
  rw [← hnx] at h51 ⊢
  have HTK := Lib.hid ht
  clear hxs hnx ht
  have HZ3 := Lib.hid hz3; clear hz3
  go_wp2_with fail
  go_loopw [17] (fun i wr => ∃ (n : Nat) (rv : Value), n ≤ xs.length ∧ i = .int .i64 n ∧
      wr.heap[w.heap.size + 1]? = some (.cells #[.int .u64 own, .int .u64 (least2 nx ((xs.take n).filter (· != own))), .int .u64 nx, rv] 66 (0, 0)) ∧
      wr.ownsRow w4.heap.size 23 1 rv ((xs.take n).filter (· != own)).length (u64s ((xs.take n).filter (· != own))) ∧ Upd (fun b => b = w.heap.size + 1) w4 wr) (fun i _ => xs.length - (intOf i).toNat)
  case atStart => exact ⟨0, .slice none 0 0, Nat.zero_le _, rfl, h51, World.ownsRow_nil _ _ _ _, Upd.refl _ _⟩
  case round =>
    obtain ⟨n, rv, hn, rfl, h5, hrv, hU⟩ := hrel
    have hzr := hU.size
    by_cases hlt : n < xs.length
    · have hy : (u64s xs)[n]? = some (.int .u64 xs[n]) := by simp [u64s, hlt]
      obtain ⟨g, gc, hgv, cy, _, hg1, _⟩ := ownsRow_cell1 own4 hy
      simp only [Value.slice.injEq] at hgv
      obtain ⟨rfl, _, rfl⟩ := hgv
      have cy' := hU.cell cy (by have := HZ3.out; simp only; omega)
      have htk : (xs.take (n + 1)).filter (· != own) = (xs.take n).filter (· != own) ++ if xs[n] != own then [xs[n]] else [] := by
        rw [List.take_succ_eq_append_getElem hlt, List.filter_append]
        congr 1
        by_cases e : xs[n] != own
        · rw [List.filter_cons, if_pos e, if_pos e]; rfl
        · rw [List.filter_cons, if_neg e, if_neg e]; rfl
      have hfl : ((xs.take n).filter (· != own)).length ≤ n := Nat.le_trans (List.length_filter_le _ _) (List.length_take_le _ _)
      obtain ⟨ru, hru⟩ : ∃ z, z = (xs.take n).filter (· != own) := ⟨_, rfl⟩
      obtain ⟨y, hyy⟩ : ∃ z, z = xs[n] := ⟨_, rfl⟩
      rw [← hru] at h5 hrv htk hfl
      rw [← hyy] at cy' htk
      clear hru hyy hy cy
      have d0 := cell_of_block h5 (i := 0) rfl
      have d1 := cell_of_block h5 (i := 1) rfl
      have d2 := cell_of_block h5 (i := 2) rfl
      have d3 := cell_of_block h5 (i := 3) rfl
      obtain ⟨ra, rc, hrs⟩ := ownsRow_slice hrv
      subst hrs
      by_cases e : y = own
      · rw [if_neg (by rw [e]; simp), List.append_nil] at htk
        have hb : (y != own) = false := by rw [e]; simp
        have HT := Lib.hid htk; clear htk e
        go_wp2_with fail
        go_roundw
        case rel => exact ⟨n + 1, _, by omega, by go_num, by rw [HT.out]; exact h5, by rw [HT.out]; exact hrv, hU⟩
        case measure => simp [intOf]; omega
      · have hb : (y != own) = true := by rw [bne_iff_ne]; exact e
        rw [hb, if_pos rfl] at htk
        have HT := Lib.hid htk; clear htk e
        have hgs : ∀ b, (Value.slice ra ru.length rc).ownBlock = some b → w4.heap.size ≤ b := fun b hb => (World.ownsRow.lt hrv b hb).1
        have HG := Lib.hid hgs; clear hgs
        have f5 : wr.frozen? ⟨w.heap.size + 1, 3, none⟩ = false := free_of_block h5
        go_wp2_with (at_builtin; refine wpList_append_mine rfl (.tmp 25) (.tmp 27) 30 rfl w4.heap.size 23 i0 (.int .u64 0) 1 8 Try.underlying30 hi hz0 hz1 hz2 rfl (by decide) _ _ _ rfl (World.ownsRow.alloc hrv _) ⟨wr.heap.size, 0, none⟩ 1 1 [.int .u64 y] rfl rfl ?c1 ?c2 ?c3 ?c4 ?c5 ?_)
        case c1 => exact cell_one_new _ _ _
        case c2 => intro u hu; simp at hu; subst hu; rfl
        case c3 => unfold maxLen; omega
        case c4 => omega
        case c5 => simp; omega
        intro v' w5 hown' hupd hnew
        have hU5 : Upd (fun b => (Value.slice ra ru.length rc).ownBlock = some b) wr w5 := Upd.trans (Upd.alloc (Upd.refl _ _) _) hupd
        have hne : ¬ (Value.slice ra ru.length rc).ownBlock = some (w.heap.size + 1) := fun e => by have := HG.out _ e; have := HZ3.out; omega
        have h5' := hU5.heap h5 hne
        have hU5' := hU.trans_new hU5 (fun b hb e => absurd (HG.out b e) (by omega))
        obtain ⟨g2, cap2, rfl, _, hg2, _⟩ := ownsRow_some hown' (by omega)
        have e1 := cell_of_block h5' (i := 1) rfl
        have e3 := cell_of_block h5' (i := 3) rfl
        have e5 : w5.frozen? ⟨w.heap.size + 1, 3, none⟩ = false := free_of_block h5'
        have e6 : w5.frozen? ⟨w.heap.size + 1, 1, none⟩ = false := free_of_block h5'
        clear hupd hnew d0 d1 d2 d3 f5 hU5 h5
        go_wp2_with fail
        go_roundw
        case rel =>
          refine ⟨n + 1, .slice (some ⟨g2, 0, none⟩) (ru.length + 1) cap2, by omega, by go_num, ?_, ?_, ?_⟩
          · rw [HT.out, least2_snoc, block_setCell (block_setCell h5' _) _]; rfl
          · rw [HT.out, List.length_append, List.length_singleton]
            have e : u64s (ru ++ [y]) = u64s ru ++ [.int .u64 y] := by simp [u64s]
            rw [e]
            have hu : Upd (fun b => b = w.heap.size + 1) w5 ((w5.setCell ⟨w.heap.size + 1, 3, none⟩ (.slice (some ⟨g2, 0, none⟩) (ru.length + 1) cap2)).setCell ⟨w.heap.size + 1, 1, none⟩ (.int .u64 (if y < least2 nx ru then y else least2 nx ru))) :=
              Upd.setCell (a := ⟨w.heap.size + 1, 1, none⟩) (Upd.setCell (a := ⟨w.heap.size + 1, 3, none⟩) (Upd.refl (fun b => b = w.heap.size + 1) w5) _ (fun _ => rfl)) _ (fun _ => rfl)
            refine ownsRow_upd hown' hu (fun b hb e => ?_)
            simp only [Value.ownBlock, Option.some.injEq] at hb
            have := HZ3.out; omega
          · exact (hU5'.setCell _ (fun _ => rfl)).setCell _ (fun _ => rfl)
        case measure => simp [intOf]; omega
    · have hnl : n = xs.length := by omega
      subst hnl
      rw [List.take_length] at h5 hrv
      obtain ⟨ru, hru⟩ : ∃ z, z = xs.filter (· != own) := ⟨_, rfl⟩
      rw [← hru] at h5 hrv
      have HRU := Lib.hid hru; clear hru
      have d0 := cell_of_block h5 (i := 0) rfl
      have d1 := cell_of_block h5 (i := 1) rfl
      have d2 := cell_of_block h5 (i := 2) rfl
      have d3 := cell_of_block h5 (i := 3) rfl
      obtain ⟨ra, rc, hrs⟩ := ownsRow_slice hrv
      subst hrs
      have h42 := hU.heap h41 (by omega)
      have k0 := cell_of_block h42 (i := 0) rfl
      have k1 := cell_of_block h42 (i := 1) rfl
      have k2 := cell_of_block h42 (i := 2) rfl
      have k3 := cell_of_block h42 (i := 3) rfl
      have q0 : wr.frozen? ⟨w.heap.size, 0, none⟩ = false := free_of_block h42
      have q1 : wr.frozen? ⟨w.heap.size, 1, none⟩ = false := free_of_block h42
      have q2 : wr.frozen? ⟨w.heap.size, 2, none⟩ = false := free_of_block h42
      have q3 : wr.frozen? ⟨w.heap.size, 3, none⟩ = false := free_of_block h42
      go_wp2_with fail
      have hUf : Upd (fun b => b = w.heap.size ∨ b = w.heap.size + 1) w4 ((((wr.setCell ⟨w.heap.size, 0, none⟩ (.int .u64 own)).setCell ⟨w.heap.size, 1, none⟩ (.int .u64 (least2 nx ru))).setCell ⟨w.heap.size, 2, none⟩ (.int .u64 nx)).setCell ⟨w.heap.size, 3, none⟩ (.slice ra ru.length rc)) :=
        ((((hU.mono (T := fun b => b = w.heap.size ∨ b = w.heap.size + 1) (fun b _ e => .inr e)).setCell _ (fun _ => .inl rfl)).setCell _ (fun _ => .inl rfl)).setCell _ (fun _ => .inl rfl)).setCell _ (fun _ => .inl rfl)
      have hUr : Upd (fun b => b = w.heap.size) wr ((((wr.setCell ⟨w.heap.size, 0, none⟩ (.int .u64 own)).setCell ⟨w.heap.size, 1, none⟩ (.int .u64 (least2 nx ru))).setCell ⟨w.heap.size, 2, none⟩ (.int .u64 nx)).setCell ⟨w.heap.size, 3, none⟩ (.slice ra ru.length rc)) :=
        ((((Upd.refl (fun b => b = w.heap.size) wr).setCell _ (fun _ => rfl)).setCell _ (fun _ => rfl)).setCell _ (fun _ => rfl)).setCell _ (fun _ => rfl)
      refine bodyPost_ret (v := Snp.val ⟨own, least2 nx ru, nx, ru⟩ (.slice ra ru.length rc)) (by simp [results, Try.results36, go_sem, Snp.val, k0, k1, k2, k3]) rfl ⟨.slice ra ru.length rc, ?_, ?_, ?_, ?_⟩
      · rw [HTK.out, ← HRU.out]
      · rw [HTK.out, ← HRU.out]
        refine ⟨ownsRow_base (ownsRow_upd hrv hUr (fun b hb e => ?_)) (Nat.zero_le _), ?_⟩
        · have := (World.ownsRow.lt hrv b hb).1; have := HZ3.out; omega
        · rw [HRU.out]; exact Nat.le_trans (List.length_filter_le _ _) hlen
      · intro g hg
        have := (World.ownsRow.lt hrv g hg).1; have := HZ3.out; omega
      · exact hb4.trans (hUf.below (by have := hb4.size; omega) (fun b hb e => by omega))
end
end Go.Proofs.Ytdohkjpapmkhjaa
