/- slices.Insert over pointers. · slices.Insert over pointers: a new row. · slices.Insert over pointers: the roads together. No conditions. -/
import Derived.Test.YtnkjnclpakfgnaaGreatDoorMt1
import Derived.Shelf.Spec.SlicesInsertGrow
namespace Go.Proofs.YtnkjnclpakfgnaaGreatDoor
open Go.RowKit
set_option maxRecDepth 100000
theorem size213 : (Tryz.prog.info? 213).map (·.size) = some 1 := by kernel_rfl
theorem sizeOf213 (w : World) : (Go.sizeOf 213).run Tryz.prog w = .ok 1 w := by kernel_rfl
section
variable {w w' : World} {lv kv d : Value} {b vb n c i vc : Nat} {xs ys : List Value} {cur : Array Value}
theorem koverlaps {vcs cur : Array Value} (hv : w.heap[vb]? = some (.cells vcs 213 (0, 0))) (hb : w.heap[b]? = some (.cells cur 213 (0, 0))) (hne : vb ≠ b) (hc : cur.size ≠ 0) (o la lb ca cb : Nat) :
  (callFunc 364 #[.slice (some ⟨vb, 0, none⟩) la ca, .slice (some ⟨b, o, none⟩) lb cb]).run Tryz.prog w = .ok (.value (.bool false)) w := by
 rw [run_callFunc_extern (fn := Tryz.f364) (e := Extern.SlicesOverlaps.overlaps #[288, 288] #[4]) Tryz.func364 (by kernel_rfl) (by kernel_rfl) (by kernel_rfl) (by kernel_rfl),
  Lib.run_overlaps_apart w 288 4 213 Tryz.underlying288 1 sizeOf213 ⟨vb, 0, none⟩ ⟨b, o, none⟩ la ca lb cb hne 213 213 vcs.size cur.size (shape_of_block hv) (shape_of_block hb) hc (free_of_block hv) (free_of_block hv)]
 rfl
set_option maxHeartbeats 4000000 in
theorem kinsert_shift (hb : w.heap[b]? = some (.cells cur 213 (0, 0))) (hc : cur.size = c * 1) (hroom : n + 1 ≤ c) (hc63 : c ≤ maxLen) (hx : cur.toList.take (n * 1) = xs) (hi : i < n) (hv : w.heap[vb]? = some (.cells ys.toArray 213 (0, 0))) (hy : ys.length = 1) (hne : vb ≠ b) (h1c : ∀ v ∈ xs, v.oneCell' = true) (h1v : ∀ v ∈ ys, v.oneCell' = true) :
    Calls Tryz.prog 326 #[.slice (some ⟨b, 0, none⟩) n c, .int .i64 (i : Int), .slice (some ⟨vb, 0, none⟩) 1 vc] w fun e w' => e = .returned (.slice (some ⟨b, 0, none⟩) (n + 1) c) ∧ w' = (w.drew.setCells b ((i + 1)) (xs.drop i)).setCells b i ys := by
 have hov : ∀ o la lb ca cb, (callFunc 364 #[.slice (some ⟨vb, 0, none⟩) la ca, .slice (some ⟨b, o, none⟩) lb cb]).run Tryz.prog w = .ok (.value (.bool false)) w := fun o la lb ca cb => koverlaps hv hb hne (by omega) o la lb ca cb
 have HOV := Lib.hid hov
 have hi1 : IntKind.i64.wrap ((i : Int) + 1) = (i : Int) + 1 := IntWalk.i64_in _ (by unfold maxLen at hc63; omega)
 have hn1 : IntKind.i64.wrap ((n : Int) + 1) = (n : Int) + 1 := IntWalk.i64_in _ (by unfold maxLen at hc63; omega)
 have e1 : ¬ (i : Int) = n := by omega
 have e2 : ¬ (c : Int) < (n : Int) + 1 := by omega
 have e3 : (i : Int) ≤ n := by omega
 have e4 : (0 : Int) ≤ (i : Int) + 1 := by omega
 have e5 : (i : Int) + 1 ≤ (n : Int) + 1 := by omega
 have e6 : (n : Int) + 1 ≤ c := by omega
 have e7 : ¬ c = i := by omega
 have e8 : ¬ c = i + 1 := by omega
 have e9 : ((i : Int) + 1).toNat = i + 1 := by omega
 have e10 : ((n : Int) + 1).toNat = n + 1 := by omega
 have e11 : (i : Int) ≤ (n : Int) + 1 := by omega
 have e12 : (0 : Int) ≤ (n : Int) + 1 := by omega
 have hxl : xs.length = n * 1 := by rw [← hx]; simp [hc]; omega
 have hdl : (xs.drop i).length = (n - i) * 1 := by rw [List.length_drop, hxl]; omega
 have hget : ∀ (j : Nat) v, xs[j]? = some v → cur[j]? = some v := fun j v hj => by
  rw [← hx, List.getElem?_take] at hj
  split at hj
  · simpa using hj
  · cases hj
 have hcp1 : ∀ ty dc sc, (Builtin.copy_ #[288, 288] ty #[.slice (some ⟨b, (i + 1), none⟩) (n - i) dc, .slice (some ⟨b, i, none⟩) (n + 1 - i) sc]).run Tryz.prog w.drew = .ok (goInt (Nat.min (n + 1 - i) (n - i))) (w.drew.setCells b ((i + 1)) (xs.drop i)) := fun ty dc sc =>
  run_copy_K w.drew 288 288 ty 213 b ((i + 1)) (n - i) dc ⟨b, i, none⟩ (n + 1 - i) sc 1 (xs.drop i) Tryz.underlying288 size213 (by rw [hdl, show Nat.min (n + 1 - i) (n - i) = n - i from by simp only [Nat.min_def]; split <;> omega])
   (fun j v hj => by
    rw [add_atn]
    rw [List.getElem?_drop] at hj
    exact cell_of_block hb (hget _ _ hj))
   (fun j hj => by
    have hlt : (i + 1) + j < cur.size := by omega
    show (w.cell? ⟨b, (i + 1) + j, none⟩).isSome = true
    rw [cell_of_block hb (Array.getElem?_eq_getElem hlt)]; rfl)
   (fun j hj => free_of_block hb) (fun v hv => h1c v (List.mem_of_mem_drop hv))
 have hb2 : (w.drew.setCells b ((i + 1)) (xs.drop i)).heap[b]? = some (.cells (setL cur ((i + 1)) (xs.drop i)) 213 (0, 0)) := block_setCells _ _ _ _ hb
 have hv2 : (w.drew.setCells b ((i + 1)) (xs.drop i)).heap[vb]? = some (.cells ys.toArray 213 (0, 0)) := (upd_setCells (S := fun g => g = b) (fun _ => rfl) _ _ _ (Upd.of_drewN 1 : Upd (fun g => g = b) w w.drew)).heap hv hne
 have hcp2 : ∀ ty dc, (Builtin.copy_ #[288, 288] ty #[.slice (some ⟨b, i, none⟩) (n + 1 - i) dc, .slice (some ⟨vb, 0, none⟩) 1 vc]).run Tryz.prog (w.drew.setCells b ((i + 1)) (xs.drop i)) = .ok (goInt (Nat.min 1 (n + 1 - i))) ((w.drew.setCells b ((i + 1)) (xs.drop i)).setCells b i ys) := fun ty dc =>
  run_copy_K _ 288 288 ty 213 b i (n + 1 - i) dc ⟨vb, 0, none⟩ 1 vc 1 ys Tryz.underlying288 size213 (by rw [hy, show Nat.min 1 (n + 1 - i) = 1 from by simp only [Nat.min_def]; split <;> omega])
   (fun j v hj => by
    rw [add_atn, Nat.zero_add]
    exact cell_of_block hv2 (by simpa using hj))
   (fun j hj => by
    have hlt : i + j < (setL cur ((i + 1)) (xs.drop i)).size := by rw [setL_size]; omega
    rw [cell_of_block hb2 (Array.getElem?_eq_getElem hlt)]; rfl)
   (fun j hj => free_of_block hb2) h1v
 obtain ⟨W1, hW1⟩ : ∃ W1, W1 = w.drew.setCells b ((i + 1)) (xs.drop i) := ⟨_, rfl⟩
 rw [← hW1] at hcp1 hcp2
 have HW1 := Lib.hid hW1; have HCP1 := Lib.hid hcp1; have HCP2 := Lib.hid hcp2
 rw [← hW1]
 clear hW1 hcp1 hcp2 hb2 hv2 hget hdl hxl
 have H1C := Lib.hid h1c; have H1V := Lib.hid h1v; have HB := Lib.hid hb; have HV := Lib.hid hv; have HX := Lib.hid hx; have HC := Lib.hid hc; have HI := Lib.hid hi; have HR := Lib.hid hroom
 clear h1c h1v hb hv hx hc hi hroom hov
 go_enter Tryz.func326, Tryz.ntmps326
 go_wp2_with (simp only [HOV.out])
 go_region_law (refine step_copy_runI rfl (.tmp 73) (.tmp 76) 288 288 rfl (.slice (some ⟨b, (i + 1), none⟩) (n - i) (c - (i + 1))) (.slice (some ⟨b, i, none⟩) (n + 1 - i) (c - i)) (by simp [Act.eval, Act.put]) (by simp [Act.eval, Act.put]) (HCP1.out 3 (c - (i + 1)) (c - i)) ?_)
 have hc2 := HCP2.out 3 (c - i)
 go_wp2_with fail
 go_ret
 exact ⟨rfl, by rw [HW1.out]⟩
end
end Go.Proofs.YtnkjnclpakfgnaaGreatDoor
namespace Go.Proofs.YtnkjnclpakfgnaaGreatDoor
open Go.RowKit Go.Lib
set_option maxRecDepth 100000
section
variable {w w' : World} {lv kv d : Value} {b vb n c i vc : Nat} {xs ys : List Value} {cur : Array Value}
set_option maxHeartbeats 4000000 in
theorem kinsert_grow (hb : w.heap[b]? = some (.cells cur 213 (0, 0))) (hc : cur.size = c * 1) (hnc : n ≤ c) (hroom : c < n + 1) (hn : n ≤ 1000000) (hx : cur.toList.take (n * 1) = xs) (hi : i < n) (hv : w.heap[vb]? = some (.cells ys.toArray 213 (0, 0))) (hy : ys.length = 1) (h1c : ∀ v ∈ xs, v.oneCell' = true) (h1v : ∀ v ∈ ys, v.oneCell' = true) :
    Calls Tryz.prog 326 #[.slice (some ⟨b, 0, none⟩) n c, .int .i64 (i : Int), .slice (some ⟨vb, 0, none⟩) 1 vc] w fun e w' => GrowPost 213 1 w w' e n (xs.take i ++ ys ++ xs.drop i) := by
 obtain ⟨i0, hi0, hz0, hzs, hzb⟩ := info_parts Tryz.info213
 have hxl : xs.length = n * 1 := by rw [← hx]; simp [hc]; omega
 have hdl : (xs.drop i).length = (n - i) * 1 := by rw [List.length_drop, hxl]; omega
 have htl : (xs.take i).length = i := by rw [List.length_take, hxl]; omega
 have hget : ∀ (j : Nat) v, xs[j]? = some v → cur[j]? = some v := fun j v hj => by
  rw [← hx, List.getElem?_take] at hj
  split at hj
  · simpa using hj
  · cases hj
 have hold : (Builtin.firstCells i0.size i (.slice (some ⟨b, 0, none⟩) i c)).run Tryz.prog w.drew = .ok (xs.take i).toArray w.drew := by
  rw [hzs]
  exact run_firstCells_some w.drew 1 i ⟨b, 0, none⟩ i c (xs.take i) (by rw [htl]; omega) (fun j v hj => by
   rw [add_atn, Nat.zero_add]
   rw [List.getElem?_take] at hj
   split at hj
   · exact cell_of_block hb (hget _ _ hj)
   · cases hj)
 obtain ⟨G, hG⟩ : ∃ G, G = grownCap w (n + 1) c 213 := ⟨_, rfl⟩
 obtain ⟨z, hz⟩ : ∃ z, z = (Value.pointer none).cells := ⟨_, rfl⟩
 obtain ⟨ROW, hROW⟩ : ∃ ROW : Array Value, ROW = (xs.take i).toArray ++ Builtin.zeroCells z (n + 1 - i) ++ Builtin.zeroCells z (G - (n + 1)) := ⟨_, rfl⟩
 have hGn : n + 1 ≤ G := by rw [hG]; exact grownCap_ge w _ _ _
 have hG63 : G ≤ maxLen := by rw [hG]; exact grownCap_le_maxLen w (n + 1) c 213 (by unfold maxLen; omega)
 have hrz : ∀ ty, (Builtin.append_ #[288, 3] ty #[.slice (some ⟨b, 0, none⟩) i c, .int .i64 ((n : Int) + 1 - (i : Int))]).run Tryz.prog w = .ok (.slice (some ⟨w.heap.size, 0, none⟩) (n + 1) G) (w.drew.alloc (.cells ROW 213)) := fun ty => by
  have h := Lib.run_append_grow_zeros w 288 3 ty 213 i0 _ .i64 .i64 Tryz.underlying288 Tryz.underlying3 hi0 hz0 (some ⟨b, 0, none⟩) i c (xs.take i) hold (n + 1 - i) (by omega) (by omega) (by omega) (by omega) (by rw [hzb]; omega) (by rw [hzb, show i + (n + 1 - i) = n + 1 by omega]; exact growslice_fits hroom (by omega))
  rw [show i + (n + 1 - i) = n + 1 by omega, ← hG, ← hz, ← hROW] at h
  rw [show (n : Int) + 1 - (i : Int) = ((n + 1 - i : Nat) : Int) by omega]
  exact h
 have hzl : z.size = 1 := by rw [hz]; rfl
 have hRs : ROW.size = G * 1 := by rw [hROW]; simp [Builtin.zeroCells, hzl, hxl]; omega
 have hRt : ∀ j, j < i → ROW[j]? = xs[j]? := fun j hj => by
  rw [hROW, Array.append_assoc, Array.getElem?_append_left (by simp [hxl]; omega), List.getElem?_toArray, List.getElem?_take, if_pos hj]
 clear hROW hold hz
 obtain ⟨N, hN⟩ : ∃ N, N = w.heap.size := ⟨_, rfl⟩
 have hbN : b < N := by rw [hN]; exact lt_of_block hb
 have hvN : vb < N := by rw [hN]; exact lt_of_block hv
 obtain ⟨W1, hW1⟩ : ∃ W1, W1 = w.drew.alloc (.cells ROW 213) := ⟨_, rfl⟩
 have hB1 : Below N w W1 := by subst hW1; rw [hN]; exact (⟨rfl, rfl, rfl, Nat.le_refl _, fun _ _ => rfl⟩ : Below w.heap.size w w.drew).trans ((Below.refl w.heap.size w.drew).alloc (Nat.le_refl _) _)
 have h1N : W1.heap[N]? = some (.cells ROW 213 (0, 0)) := by subst hW1; rw [hN]; exact heap_new1 w.drew _
 have h1b : W1.heap[b]? = some (.cells cur 213 (0, 0)) := by rw [hB1.block b hbN]; exact hb
 have h1v' : W1.heap[vb]? = some (.cells ys.toArray 213 (0, 0)) := by rw [hB1.block vb hvN]; exact hv
 obtain ⟨W2, hW2⟩ : ∃ W2, W2 = W1.setCells N i ys := ⟨_, rfl⟩
 have hu2 : Upd (fun g => g = N) W1 W2 := by subst hW2; exact upd_setCells (S := fun g => g = N) (fun _ => rfl) _ _ _ (Upd.refl _ _)
 have h2N : W2.heap[N]? = some (.cells (setL ROW i ys) 213 (0, 0)) := by subst hW2; exact block_setCells _ _ _ _ h1N
 have h2b : W2.heap[b]? = some (.cells cur 213 (0, 0)) := hu2.heap h1b (by omega)
 obtain ⟨W3, hW3⟩ : ∃ W3, W3 = W2.drew.setCells N ((i + 1)) (xs.drop i) := ⟨_, rfl⟩
 have hu3 : Upd (fun g => g = N) W2 W3 := by subst hW3; exact upd_setCells (S := fun g => g = N) (fun _ => rfl) _ _ _ (Upd.of_drewN 1)
 have h3N : W3.heap[N]? = some (.cells (setL (setL ROW i ys) ((i + 1)) (xs.drop i)) 213 (0, 0)) := by subst hW3; exact block_setCells _ _ _ _ h2N
 have hcpA : ∀ ty dc, (Builtin.copy_ #[288, 288] ty #[.slice (some ⟨N, i, none⟩) (n + 1 - i) dc, .slice (some ⟨vb, 0, none⟩) 1 vc]).run Tryz.prog W1 = .ok (goInt (Nat.min 1 (n + 1 - i))) W2 := fun ty dc => by
  rw [hW2]
  exact run_copy_K _ 288 288 ty 213 N i (n + 1 - i) dc ⟨vb, 0, none⟩ 1 vc 1 ys Tryz.underlying288 size213 (by rw [hy, show Nat.min 1 (n + 1 - i) = 1 from by simp only [Nat.min_def]; split <;> omega])
   (fun j v hj => by rw [add_atn, Nat.zero_add]; exact cell_of_block h1v' (by simpa using hj))
   (fun j hj => by
    have hlt : i + j < ROW.size := by omega
    rw [cell_of_block h1N (Array.getElem?_eq_getElem hlt)]; rfl)
   (fun j hj => free_of_block h1N) h1v
 have hcpB : ∀ ty dc sc, (Builtin.copy_ #[288, 288] ty #[.slice (some ⟨N, (i + 1), none⟩) (n - i) dc, .slice (some ⟨b, i, none⟩) (n - i) sc]).run Tryz.prog W2.drew = .ok (goInt (Nat.min (n - i) (n - i))) W3 := fun ty dc sc => by
  rw [hW3]
  exact run_copy_K W2.drew 288 288 ty 213 N ((i + 1)) (n - i) dc ⟨b, i, none⟩ (n - i) sc 1 (xs.drop i) Tryz.underlying288 size213 (by rw [hdl, show Nat.min (n - i) (n - i) = n - i from Nat.min_self _])
   (fun j v hj => by
    rw [add_atn]
    rw [List.getElem?_drop] at hj
    exact cell_of_block h2b (hget _ _ hj))
   (fun j hj => by
    have hlt : (i + 1) + j < (setL ROW i ys).size := by rw [setL_size]; omega
    show (W2.cell? ⟨N, (i + 1) + j, none⟩).isSome = true
    rw [cell_of_block h2N (Array.getElem?_eq_getElem hlt)]; rfl)
   (fun j hj => free_of_block h2N) (fun v hv => h1c v (List.mem_of_mem_drop hv))
 have hfin : (setL (setL ROW i ys) ((i + 1)) (xs.drop i)).toList.take ((n + 1) * 1) = xs.take i ++ ys ++ xs.drop i := by
  have := grow_take (cur := ROW) (A := i) (N := n * 1) (K := 1) hRt hxl hy (by omega) (by omega)
  rw [show (i + 1) = i + 1 by omega, show (n + 1) * 1 = n * 1 + 1 by omega]; exact this
 have hBel : Below w.heap.size w W3 := by
  rw [← hN]
  exact hB1.trans ((hu2.trans hu3).below (B := N) (by rw [hN]; exact hB1.size) (fun g hg e => by omega))
 have hpost : ∀ e, e = .returned (.slice (some ⟨w.heap.size, 0, none⟩) (n + 1) G) → GrowPost 213 1 w W3 e n (xs.take i ++ ys ++ xs.drop i) := fun e he => ⟨G, _, he, hGn, hG63, by rw [← hN]; exact h3N, by rw [setL_size, setL_size]; exact hRs, hfin, hBel⟩
 rw [← hN] at hrz hpost
 have HPOST := Lib.hid hpost; clear hpost
 rw [← hW1] at hrz
 have hi1 : IntKind.i64.wrap ((i : Int) + 1) = (i : Int) + 1 := IntWalk.i64_in _ (by omega)
 have hn1 : IntKind.i64.wrap ((n : Int) + 1) = (n : Int) + 1 := IntWalk.i64_in _ (by omega)
 have hn2 : IntKind.i64.wrap ((n : Int) + 1 - (i : Int)) = (n : Int) + 1 - (i : Int) := IntWalk.i64_in _ (by omega)
 have e1 : ¬ (i : Int) = n := by omega
 have e2 : (c : Int) < (n : Int) + 1 := by omega
 have e3 : (i : Int) ≤ n := by omega
 have e4 : (0 : Int) ≤ (i : Int) + 1 := by omega
 have e5 : (i : Int) + 1 ≤ (n : Int) + 1 := by omega
 have e7 : ¬ c = i := by omega
 have e8 : ¬ G = i + 1 := by omega
 have e9 : ((i : Int) + 1).toNat = i + 1 := by omega
 have e11 : (i : Int) ≤ (n : Int) + 1 := by omega
 have e13 : ¬ G = i := by omega
 have e14 : (i : Int) ≤ (c : Int) := by omega
 have H1 := Lib.hid hBel; have H2 := Lib.hid hfin; have H3 := Lib.hid h3N; have HS := Lib.hid hRs; have HCA := Lib.hid hcpA; have HCB := Lib.hid hcpB; have HRZ := Lib.hid hrz; have HNN := Lib.hid hN; have HG1 := Lib.hid hGn; have HG2 := Lib.hid hG63; have HB := Lib.hid hb; have HV := Lib.hid hv
 clear hBel hfin h3N hRs hcpA hcpB hrz hN hGn hG63 hu3 hu2 h2b h2N h1b h1N h1v' hB1 hW1 hW2 hW3 hbN hvN hRt hget hdl htl hxl hx hc hG h1c h1v hb hv hroom hnc hn hzl
 go_enter Tryz.func326, Tryz.ntmps326
 have q2 := HCA.out 3 (G - i)
 go_wp2_with (first
  | (at_builtin; refine Lib.wpList_append_run _ rfl (.tmp 34) (.tmp 39) 288 3 rfl _ _ rfl rfl _ _ (HRZ.out _) ?_)
  | fail)
 go_region_law (refine step_copy_runI rfl (.tmp 50) (.tmp 53) 288 288 rfl (.slice (some ⟨N, (i + 1), none⟩) (n - i) (G - (i + 1))) (.slice (some ⟨b, i, none⟩) (n - i) (c - i)) (by simp [Act.eval, Act.put]) (by simp [Act.eval, Act.put]) (HCB.out 3 (G - (i + 1)) (c - i)) ?_)
 go_wp2_with fail
 go_ret
 exact HPOST.out _ (by rw [HNN.out]; rfl)
end
end Go.Proofs.YtnkjnclpakfgnaaGreatDoor
namespace Go.Proofs.YtnkjnclpakfgnaaGreatDoor
open Go.RowKit
set_option maxRecDepth 100000
section
variable {w w' : World} {lv kv d : Value} {b vb n i vc : Nat} {xs ys : List Value}
set_option maxHeartbeats 4000000 in
theorem kinsert_end (h : w.ownsRow 0 213 1 lv n xs) (hv : w.heap[vb]? = some (.cells ys.toArray 213 (0, 0))) (hy : ys.length = 1) (h1v : ∀ v ∈ ys, v.oneCell' = true) (hn : n ≤ 1000000) :
    Calls Tryz.prog 326 #[lv, .int .i64 (n : Int), .slice (some ⟨vb, 0, none⟩) 1 vc] w fun e w' => ∃ v', e = .returned v' ∧ w'.ownsRow 0 213 1 v' (n + 1) (xs ++ ys) ∧ Upd (fun b => lv.ownBlock = some b) w w' ∧ (∀ g, v'.ownBlock = some g → lv.ownBlock = some g ∨ w.heap.size ≤ g) := by
 obtain ⟨a, cap, rfl⟩ := ownsRow_slice h
 obtain ⟨i0, hi0, hz0, hzs, hzb⟩ := info_parts Tryz.info213
 have hcs : ∀ (j : Nat) u, ys[j]? = some u → w.cell? ((⟨vb, 0, none⟩ : Addr).add j) = some u := fun j u hj => by
  rw [add_atn, Nat.zero_add]; exact cell_of_block hv (by simpa using hj)
 have HCS := Lib.hid hcs; have H := Lib.hid h; have H1 := Lib.hid h1v; have HY := Lib.hid (show ys.length = 1 * 1 by omega)
 clear hcs h h1v hy hv
 have e1 : (0 : Int) ≤ n := by omega
 by_cases hcn : cap = n
 · subst hcn
   go_enter Tryz.func326, Tryz.ntmps326
   go_wp2_with (at_builtin; refine wpList_append_mine rfl (.tmp 23) (.tmp 24) 288 rfl 0 213 i0 (.pointer none) 1 8 Tryz.underlying288 hi0 hz0 hzs hzb rfl (by decide) _ _ _ rfl H.out ⟨vb, 0, none⟩ 1 vc ys rfl HY.out HCS.out H1.out ?c3 ?c4 ?c5 ?_)
   case c3 => unfold maxLen; omega
   case c4 => omega
   case c5 => exact Nat.zero_le _
   intro v' w5 hown' hupd hnew
   go_wp2_with fail
   go_ret
   exact ⟨_, rfl, hown', hupd, hnew⟩
 · go_enter Tryz.func326, Tryz.ntmps326
   go_wp2_with (at_builtin; refine wpList_append_mine rfl (.tmp 23) (.tmp 24) 288 rfl 0 213 i0 (.pointer none) 1 8 Tryz.underlying288 hi0 hz0 hzs hzb rfl (by decide) _ _ _ rfl H.out ⟨vb, 0, none⟩ 1 vc ys rfl HY.out HCS.out H1.out ?c3 ?c4 ?c5 ?_)
   case c3 => unfold maxLen; omega
   case c4 => omega
   case c5 => exact Nat.zero_le _
   intro v' w5 hown' hupd hnew
   go_wp2_with fail
   go_ret
   exact ⟨_, rfl, hown', hupd, hnew⟩
/-- slices.Insert of one entry. -/
theorem kinsert_at (h : w.ownsRow 0 213 1 lv n xs) (hi : i ≤ n) (hv : w.heap[vb]? = some (.cells ys.toArray 213 (0, 0))) (hy : ys.length = 1) (hne : lv.ownBlock ≠ some vb) (h1c : ∀ v ∈ xs, v.oneCell' = true) (h1v : ∀ v ∈ ys, v.oneCell' = true) (hn : n ≤ 1000000) :
    Calls Tryz.prog 326 #[lv, .int .i64 (i : Int), .slice (some ⟨vb, 0, none⟩) 1 vc] w fun e w' => ∃ v', e = .returned v' ∧ w'.ownsRow 0 213 1 v' (n + 1) (xs.take i ++ ys ++ xs.drop i) ∧ Upd (fun b => lv.ownBlock = some b) w w' ∧ (∀ g, v'.ownBlock = some g → lv.ownBlock = some g ∨ w.heap.size ≤ g) := by
 have hl := h.1
 by_cases hin : i = n
 · subst hin
   rw [List.take_of_length_le (by omega), List.drop_of_length_le (by omega), List.append_nil]
   exact kinsert_end h hv hy h1v hn
 · obtain ⟨_, ⟨_, h2⟩ | ⟨g, cap, cur, rfl, hb, hh, hnc, hm, hz, ht⟩⟩ := h
   · omega
   · have hlen : (xs.take i ++ ys ++ xs.drop i).length = (n + 1) * 1 := by simp [hl, hy]; omega
     by_cases hr : n + 1 ≤ cap
     · refine (kinsert_shift (i := i) (vc := vc) hh hz hr hm ht (by omega) hv hy (fun e => hne (by rw [e]; rfl)) h1c h1v).mono ?_
       rintro e w1 ⟨rfl, rfl⟩
       refine ⟨_, rfl, ⟨hlen, .inr ⟨g, cap, _, rfl, Nat.zero_le _, block_setCells _ _ _ _ (block_setCells _ _ w.drew _ hh), hr, hm, by rw [setL_size, setL_size]; exact hz, ?_⟩⟩, (upd_setCells (S := fun b => b = g) (fun _ => rfl) _ _ _ (upd_setCells (S := fun b => b = g) (fun _ => rfl) _ _ _ (Upd.of_drewN 1 : Upd _ w w.drew))).mono (fun b _ e => by rw [e]; rfl), fun g' e => .inl e⟩
       have := shift_take (A := i) (N := n * 1) (K := 1) (ys := ys) ht hl hy (by omega) (by omega)
       rw [show (i + 1) = i + 1 by omega, show (n + 1) * 1 = n * 1 + 1 by omega]; exact this
     · refine (kinsert_grow (i := i) (vc := vc) hh hz hnc (by omega) hn ht (by omega) hv hy h1c h1v).mono ?_
       rintro e w1 ⟨G, cur2, rfl, a1, a2, a3, a4, a5, a6⟩
       exact ⟨_, rfl, ⟨hlen, .inr ⟨_, G, cur2, rfl, Nat.zero_le _, a3, a1, a2, a4, a5⟩⟩, Upd.same a6, fun g' e => .inr (by cases e; exact Nat.le_refl _)⟩
end
end Go.Proofs.YtnkjnclpakfgnaaGreatDoor
