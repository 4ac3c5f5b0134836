/- TopSteady's own text, walked over contracts of what it calls. No conditions. -/
import Derived.Test.YtnkjnclpakfgnaaGreatDoorZg
import Derived.ProofKit
namespace Go.Proofs.YtnkjnclpakfgnaaGreatDoor
namespace X
open Go.RowKit
set_option maxRecDepth 100000

theorem new_at (w : World) (o : Obj) : (w.alloc o).heap[w.heap.size]? = some o := (Array.getElem?_push ..).trans (if_pos rfl)
theorem news_at {w : World} {b : Nat} {u : Value} {t : TypeId} (h : w.heap[b]? = some (.cells #[u] t)) (j : Nat) (x : Value) (hx : [u][j]? = some x) : w.cell? ((⟨b, 0, none⟩ : Addr).add j) = some x := by
  match j, hx with
  | 0, hx => obtain rfl := Option.some.inj hx; simp [World.cell?, Addr.add, h]
  | j + 1, hx => simp at hx
/-- A new struct of four cells, filled at once. -/
theorem wpList_fill {P : Program} {ops : Array Oper} {rest : List Oper} {o : Oper} {a : Act} {w : World} {Q : Exit → Act → World → Prop} (hgd : o.guard = none) (ty : TypeId) (x y : Operand) (ho : o.op = .store ty x y)
    (c0 x1 x2 x3 : Value) (z : Array Value) (hx : a.eval x = .pointer (some ⟨w.heap.size, 0, none⟩)) (hy : a.eval y = .agg #[c0, x1, x2, x3]) (hz : z.size = 4) (hi : (P.info? ty).map (·.size) = some 4) (h0 : c0.oneCell' = true) (h1 : O3 x1 x2 x3)
    (h : ∀ w', Below w.heap.size w w' → w'.heap[w.heap.size]? = some (.cells #[c0, x1, x2, x3] ty) → wpList P ops Q rest (a.put o.dst undef) w') : wpList P ops Q (o :: rest) a (w.alloc (.cells z ty)) := by
  have hn := new_at w (.cells z ty)
  refine wpList_store_row hgd ty x y ho w.heap.size #[c0, x1, x2, x3] hx hy ty z hn (by rw [hi]; rfl) (by rw [hz]; rfl) (by simp [h0, h1.1, h1.2.1, h1.2.2]) (h _ ?_ (setRow_heap _ _ _ _ _ _ hn))
  exact ⟨rfl, rfl, rfl, by simp, fun b hb => by rw [setRow_other _ _ _ _ (by omega)]; exact (Array.getElem?_push ..).trans (if_neg (by omega))⟩
theorem fill_cell {w : World} {b t i : Nat} {L : Array Value} {v : Value} (h : w.heap[b]? = some (.cells L t)) (hv : L[i]? = some v) : w.cell? ⟨b, i, none⟩ = some v := by
  simpa [World.cell?, h] using hv
theorem Tryz.size39 : (Tryz.prog.info? 39).map (·.size) = some 4 := by kernel_rfl
theorem Tryz.size42 : (Tryz.prog.info? 42).map (·.size) = some 4 := by kernel_rfl
theorem cell_kept {w w' : World} {a : Addr} {v : Value} (hB : Below w.heap.size w w') (h : w.cell? a = some v) : w'.cell? a = some v := by
  have hb := World.block_lt_of_cell? w _ h
  exact (hB.cell (p := a) hb).trans h
theorem size_one {S : ByteArray} {c : Nat} (h : bytesN S = [c]) : S.size = 1 := by
  have := congrArg List.length h
  simpa [bytesN] using this
theorem Tryz.info9 : (Tryz.prog.info? 9).map (fun i => (i.zero, i.size, i.bytes)) = some (some (.string ByteArray.empty), 1, 16) := by kernel_rfl
set_option maxHeartbeats 8000000 in
theorem walk4 {r n : Int} {all : Bool} {k m : Nat} {W : World} (hr : 0 ≤ r ∧ r < 256) (hn : 0 ≤ n ∧ n < 256) (hk : (k : Int) = 1 + r % 10) (hm : (m : Int) = 1 + n % 24)
    (hdec : ∀ i, i < 10 → ∀ w, Calls Tryz.prog 16 #[.int .i64 (i : Nat)] w fun e w' => ∃ S, e = .returned (.string S) ∧ bytesN S = [48 + i] ∧ Below w.heap.size w w')
    (A : World → Prop) (h5 : Calls Tryz.prog 5 #[] W fun e w' => e = .returned (.bool true) ∧ A w')
    (B : Nat → World → Prop)
    (h14 : ∀ w, A w → Calls Tryz.prog 14 #[.int .i64 ((2 * k : Nat) : Int)] w fun e w1 => ∃ db, e = .returned (.tuple #[.pointer (some ⟨db, 0, none⟩), .int .i64 0]) ∧
      ∀ w2, Below w1.heap.size w1 w2 → Calls Tryz.prog 15 #[.pointer (some ⟨db, 0, none⟩)] w2 fun e w3 => e = .returned (.tuple #[.int .i64 0, .int .i64 0]) ∧ B db w3)
    (D : Nat → World → Nat → Nat → World → Prop)
    (hlock : ∀ db w3 w0, B db w3 → Below w3.heap.size w3 w0 → D w3.heap.size w0 db 0 w0)
    (hkept : ∀ (n0 : Nat) (w0 : World) (db j : Nat) (w : World) (b : Nat), D n0 w0 db j w → n0 ≤ b → b < w0.heap.size → w.heap[b]? = w0.heap[b]?)
    (hbel : ∀ (n0 : Nat) (w0 : World) (db j : Nat) (w w' : World), D n0 w0 db j w → Below w.heap.size w w' → D n0 w0 db j w')
    (hdo : ∀ (n0 : Nat) (w0 : World) (db j : Nat) (w : World) (S : ByteArray), D n0 w0 db j w → j < k + 2 → bytesN S = qS j →
      Calls Tryz.prog 17 #[.pointer (some ⟨db, 0, none⟩), .int .i64 0, .string S] w fun e w' => (∃ x1 x2 x3, O3 x1 x2 x3 ∧ e = .returned (.tuple #[.agg #[.int .i64 0, x1, x2, x3], .int .i64 0])) ∧ D n0 w0 db (j + 1) w')
    (R : Nat → Nat → World → Prop) (hR : ∀ (n0 : Nat) (w0 : World) (db : Nat) (w : World), D n0 w0 db (k + 2) w → R db 0 w)
    (hRb : ∀ (db q : Nat) (w w' : World), R db q w → Below w.heap.size w w' → R db q w')
    (hro : ∀ (db q : Nat) (w : World) (S : ByteArray), R db q w → q < 24 → bytesN S = chQ k all q →
      Calls Tryz.prog 17 #[.pointer (some ⟨db, 0, none⟩), .int .i64 0, .string S] w fun e w' => (∃ x1 x2 x3, O3 x1 x2 x3 ∧ e = .returned (.tuple #[.agg #[.int .i64 0, x1, x2, x3], .int .i64 0])) ∧ Swp db 60 w' (R db (q + 1)))
    (hsel : ∀ (db : Nat) (w : World) (S : ByteArray), R db m w → bytesN S = [83, 69, 76, 69, 67, 84, 32, 83, 85, 77, 40, 98, 41, 44, 32, 67, 79, 85, 78, 84, 40, 42, 41, 32, 70, 82, 79, 77, 32, 116] →
      Calls Tryz.prog 17 #[.pointer (some ⟨db, 0, none⟩), .int .i64 0, .string S] w fun e w' => ∃ b1 cap1 b2 cap2 x1 x2, O3 x1 x2 x2 ∧ e = .returned (.tuple #[.agg #[.int .i64 0, x1, .slice (some ⟨b1, 0, none⟩) 1 cap1, x2], .int .i64 0]) ∧
        w'.cell? ⟨b1, 0, none⟩ = some (.slice (some ⟨b2, 0, none⟩) 2 cap2) ∧ w'.cell? ⟨b2, 1, none⟩ = some (.int .i64 (if all then (m : Int) * k else m)) ∧ w'.cell? ⟨b2, 5, none⟩ = some (.int .i64 k) ∧ Below W.heap.size W w') :
    Calls Tryz.prog 4 #[.int .u8 r, .int .u8 n, .bool all] W fun e w' => e = .returned (.bool true) ∧ Below W.heap.size W w' := by
  have hk1 : 1 ≤ k := by omega
  have hk2 : k ≤ 10 := by omega
  have hm1 : 1 ≤ m := by omega
  have hm2 : m ≤ 24 := by omega
  have hrt : r.tmod 10 = r % 10 := Int.tmod_eq_emod_of_nonneg hr.1
  have hnt : n.tmod 24 = n % 24 := Int.tmod_eq_emod_of_nonneg hn.1
  have HM := Lib.hid hm
  have HK := Lib.hid hk
  have H5 := Lib.hid h5; have H14 := Lib.hid h14; have HL := Lib.hid hlock; have HKP := Lib.hid hkept; have HB := Lib.hid hbel; have HDO := Lib.hid hdo; have HR := Lib.hid hR
  have HRB := Lib.hid hRb; have HRO := Lib.hid hro; have HSEL := Lib.hid hsel; have HDEC := Lib.hid hdec
  clear hm hk h5 h14 hlock hkept hbel hdo hR hRb hro hsel hdec
  go_enter Tryz.func4, Tryz.ntmps4
  go_wp2_with fail
  refine H5.out.mono ?_
  rintro e w1 ⟨rfl, ha⟩
  have HA := Lib.hid (H14.out w1 ha)
  clear ha
  go_wp2_with fail
  rw [show (2 * (1 + r % 10) : Int) = ((2 * k : Nat) : Int) from by have := HK.out; omega]
  refine HA.out.mono ?_
  rintro e w2 ⟨db, rfl, hop⟩
  have HOP := Lib.hid (hop w2 (Below.refl _ _))
  clear hop HA
  go_wp2_with fail
  refine HOP.out.mono ?_
  rintro e w3 ⟨rfl, hb⟩
  have HLK := Lib.hid (fun w0 => HL.out db w3 w0 hb)
  clear hb HOP
  go_wp2_with fail
  rw [← HK.out]
  obtain ⟨i0, hi, hz0, hz1, hz2⟩ := info_parts Tryz.info9
  go_loopw [12, 48] (fun v i wr => ∃ (j : Nat) (xs : List ByteArray), j ≤ k ∧ i = .int .i64 j ∧ xs.length = j + 2 ∧ (∀ (q : Nat) (S : ByteArray), xs[q]? = some S → bytesN S = qS q) ∧ wr.ownsRow w3.heap.size 9 1 v (j + 2) (xs.map Value.string) ∧ Below w3.heap.size w3 wr) (fun _ i _ => k - (intOf i).toNat)
  case atStart =>
    refine ⟨0, [⟨#[67, 82, 69, 65, 84, 69, 32, 84, 65, 66, 76, 69, 32, 116, 32, 40, 97, 32, 73, 78, 84, 44, 32, 98, 32, 73, 78, 84, 41]⟩, ⟨#[67, 82, 69, 65, 84, 69, 32, 73, 78, 68, 69, 88, 32, 105, 32, 79, 78, 32, 116, 32, 40, 98, 41]⟩], Nat.zero_le _, rfl, rfl, fun q S h => ?_, ⟨rfl, .inr ⟨w3.heap.size, 2, _, rfl, Nat.le_refl _, new_at w3 _, by decide, by decide, rfl, rfl⟩⟩, (Below.refl _ _).alloc (Nat.le_refl _) _⟩
    match q, h with
    | 0, h => cases h; rfl
    | 1, h => cases h; rfl
    | q + 2, h => simp at h
  case round =>
    obtain ⟨j, xs, hj, rfl, hx, hq, hown, hB⟩ := hrel
    have hz := hB.size
    by_cases hlt : j < k
    · have HQ := Lib.hid hq; have HX := Lib.hid hx
      clear hq hx
      go_wp2_with fail
      refine (HDEC.out j (by omega) _).mono ?_
      rintro e wd ⟨S, rfl, hS, hBd⟩
      have hown2 := own_below hown hBd
      have hSz : S.size = 1 := size_one hS
      have HS := Lib.hid hS
      have hzd := hBd.size
      clear hown hS
      obtain ⟨T, hT⟩ : ∃ T : ByteArray, T = ((⟨#[73, 78, 83, 69, 82, 84, 32, 73, 78, 84, 79, 32, 116, 32, 86, 65, 76, 85, 69, 83, 32, 40]⟩ : ByteArray) ++ S) ++ ⟨#[44, 32, 48, 41]⟩ := ⟨_, rfl⟩
      have HT := Lib.hid hT
      go_wp2_with (at_builtin; refine wpList_append_mine rfl (.tmp 51) (.tmp 56) 36 rfl w3.heap.size 9 i0 (.string ByteArray.empty) 1 16 Tryz.underlying36 hi hz0 hz1 hz2 rfl (by decide) _ _ _ rfl (World.ownsRow.alloc hown2 _) ⟨wd.heap.size, 0, none⟩ 1 1 [.string T] rfl rfl ?c1 ?c2 ?c3 ?c4 ?c5 ?_)
      case c1 =>
        intro q u h
        rw [HT.out] at h
        exact news_at (new_at wd _) q u h
      case c2 => intro u hu; simp at hu; subst hu; rfl
      case c3 => unfold maxLen; omega
      case c4 => omega
      case c5 => first | omega | (simp; omega)
      intro v' w5 hown' hupd hnew
      have hwn : ∀ b, u12.ownBlock = some b → w3.heap.size ≤ b := fun b hb => (World.ownsRow.lt hown2 b hb).1
      have hb5 : Below w3.heap.size wd w5 := Upd.below (S := fun b => u12.ownBlock = some b) ((Upd.same ((Below.refl _ _).alloc (Nat.le_refl _) _)).trans hupd) (Nat.le_trans hz hzd) (fun b hb e => by have := hwn b e; omega)
      have hx2 : (xs ++ [T]).length = j + 1 + 2 := by rw [List.length_append, HX.out]; rfl
      have hq2 : ∀ (q : Nat) (U : ByteArray), (xs ++ [T])[q]? = some U → bytesN U = qS q := by
        intro q U h
        have hxl := HX.out
        rw [List.getElem?_append] at h
        split at h
        · exact HQ.out q U h
        · have : q = j + 2 := by
            have := (List.getElem?_eq_some_iff.1 h).1
            simp at this; omega
          subst this
          rw [hxl, Nat.sub_self] at h
          cases h
          rw [HT.out, bytesN_append, bytesN_append, HS.out]; rfl
      have HX2 := Lib.hid hx2; have HQ2 := Lib.hid hq2; have HB5 := Lib.hid ((hB.trans (hBd.mono hz)).trans hb5)
      have HOW := Lib.hid (show w5.ownsRow w3.heap.size 9 1 v' (j + 1 + 2) ((xs ++ [T]).map Value.string) from by
        rw [List.map_append, show j + 1 + 2 = j + 2 + 1 from by omega, List.map_cons, List.map_nil, HT.out]; exact hown')
      clear hx2 hq2 hb5 hown' hown2 hupd hnew hwn hB hBd
      go_wp2_with fail
      go_roundw
      case rel => exact ⟨j + 1, xs ++ [T], by omega, by go_num, HX2.out, HQ2.out, HOW.out, HB5.out⟩
      case measure => simp [intOf]; omega
    · have hjk : j = k := by omega
      subst hjk
      obtain ⟨g, cap, rfl, _, hg1, hg2⟩ := ownsRow_some hown (by omega)
      have HX := Lib.hid hx; have HQ := Lib.hid hq
      obtain ⟨n0, hn0⟩ : ∃ n0, n0 = w3.heap.size := ⟨_, rfl⟩
      have hD := HLK.out wr hB
      have hcell : ∀ (q : Nat) (S : ByteArray), xs[q]? = some S → ∀ w' : World, w'.heap[g]? = wr.heap[g]? → w'.cell? ⟨g, q, none⟩ = some (Value.string S) := by
        intro q S h w' hw
        obtain ⟨g', cap', e1, e2, _⟩ := ownsRow_cell1 hown (j := q) (u := .string S) (by rw [List.getElem?_map, h]; rfl)
        cases e1
        simpa [World.cell?, hw] using e2
      rw [← hn0] at hD hg1
      have HC := Lib.hid hcell
      have HG := Lib.hid (show n0 ≤ g ∧ g < wr.heap.size from ⟨hg1, hg2⟩)
      have HD0 := Lib.hid hD
      clear hx hq hown hB hz hcell hg1 hg2 hD hn0 HLK
      go_wp2_with fail
      obtain ⟨w0, hw0⟩ : ∃ w0, w0 = wr := ⟨_, rfl⟩
      subst hw0
      go_loopw [61] (fun i wr => ∃ q : Nat, q ≤ j + 2 ∧ i = .int .i64 q ∧ D n0 w0 db q wr) (fun i _ => j + 2 - (intOf i).toNat)
      case atStart => exact ⟨0, by omega, rfl, HD0.out⟩
      case round =>
        clear HD0
        obtain ⟨q, hq, rfl, hd⟩ := hrel
        by_cases hlt2 : q < j + 2
        · obtain ⟨S, hS⟩ : ∃ S, xs[q]? = some S := ⟨_, List.getElem?_eq_getElem (by rw [HX.out]; exact hlt2)⟩
          have hc := HC.out q S hS wr (HKP.out _ _ _ _ _ _ hd HG.out.1 HG.out.2)
          have HCALL := Lib.hid (HDO.out _ _ _ _ _ _ hd hlt2 (HQ.out q S hS))
          clear hd hS
          go_wp2_with fail
          refine HCALL.out.mono ?_
          rintro e wd ⟨⟨x1, x2, x3, ho, rfl⟩, hd2⟩
          clear HCALL hc
          have HO := Lib.hid ho; have HD2 := Lib.hid hd2
          clear ho hd2
          go_wp2_with (refine wpList_fill rfl 39 (.tmp 16) (.tmp 70) rfl (.int .i64 0) x1 x2 x3 _ rfl rfl rfl Tryz.size39 rfl HO.out ?_)
          intro wz hBz hzz
          have hd3 := HB.out _ _ _ _ _ _ HD2.out hBz
          have c0 : wz.cell? ⟨wd.heap.size, 0, none⟩ = some (.int .i64 0) := fill_cell hzz rfl
          have HD3 := Lib.hid hd3
          clear hBz hzz hd3 HD2
          go_wp2_with fail
          go_roundw
          case rel => exact ⟨q + 1, by omega, by go_num, HD3.out⟩
          case measure => simp [intOf]; omega
        · have hqj : q = j + 2 := by omega
          subst hqj
          have HR0 := Lib.hid (HR.out _ _ _ _ hd)
          clear hd HKP HB HDO HC HG HX HQ
          go_wp2_with fail
          rw [← HM.out]
          obtain ⟨w4, hw4⟩ : ∃ w4, w4 = wr := ⟨_, rfl⟩
          subst hw4
          go_loopw [80] (fun i wr => ∃ q : Nat, q ≤ m ∧ i = .int .i64 q ∧ R db q wr) (fun i _ => m - (intOf i).toNat)
          case atStart => exact ⟨0, by omega, rfl, HR0.out⟩
          case round =>
            clear HR0
            obtain ⟨q, hq, rfl, hd⟩ := hrel
            by_cases hlt3 : q < m
            · cases all with
              | true =>
                have HCALL := Lib.hid (fun S (h : bytesN S = qU) => HRO.out db q wr S hd (by omega) h)
                clear hd
                go_wp2_with fail
                refine (HCALL.out _ rfl).mono ?_
                rintro e wd ⟨⟨x1, x2, x3, ho, rfl⟩, hsw⟩
                have HO := Lib.hid ho; have HSW := Lib.hid hsw
                clear ho hsw HCALL
                go_wp2_with (refine wpList_fill rfl 39 (.tmp 20) (.tmp 97) rfl (.int .i64 0) x1 x2 x3 _ rfl rfl rfl Tryz.size39 rfl HO.out ?_)
                intro wz hBz hzz
                have hsw2 := Swp.below HSW.out hBz
                have c0 : wz.cell? ⟨wd.heap.size, 0, none⟩ = some (.int .i64 0) := fill_cell hzz rfl
                have HS0 := Lib.hid hsw2
                clear hBz hzz hsw2 HSW HO
                go_wp2_with fail
                clear c0
                obtain ⟨w5, hw5⟩ : ∃ w5, w5 = wz := ⟨_, rfl⟩
                subst hw5
                go_loopw [22] (fun i wr => ∃ a b : Nat, i = .int .i64 a ∧ a + b = 60 ∧ Swp db b wr (R db (q + 1))) (fun i _ => 60 - (intOf i).toNat)
                case atStart => exact ⟨0, 60, rfl, rfl, HS0.out⟩
                case round =>
                  clear HS0
                  obtain ⟨a, b, rfl, hab, hs⟩ := hrel
                  cases b with
                  | zero => exact hs.elim
                  | succ b =>
                    have HS := Lib.hid (hs wr (Below.refl _ _))
                    have hlt4 : (a : Int) < 400 := by omega
                    clear hs
                    go_wp2_with fail
                    refine HS.out.mono ?_
                    rintro e wd ⟨c, x1, x2, x3, ho, rfl, hif⟩
                    have HO := Lib.hid ho; have HIF := Lib.hid hif
                    clear ho hif HS
                    go_wp2_with (refine wpList_fill rfl 42 (.tmp 23) (.tmp 107) rfl (.int .i64 c) x1 x2 x3 _ rfl rfl rfl Tryz.size42 rfl HO.out ?_)
                    intro wz hBz hzz
                    have c0 : wz.cell? ⟨wd.heap.size, 0, none⟩ = some (.int .i64 c) := fill_cell hzz rfl
                    by_cases hc4 : c = 4
                    · have hr : R db (q + 1) wz := by have := HIF.out; rw [if_pos hc4] at this; exact HRB.out _ _ _ _ this hBz
                      have HRR := Lib.hid hr
                      have hc4i : (c : Int) = 4 := by omega
                      subst hc4
                      clear hBz hzz hr HIF HO
                      go_wp2_with fail
                      refine ⟨?_, by simp [intOf]; omega⟩
                      exact ⟨_, _, _, _, _, _, _, _, _, _, _, _, _, _, _, _, _, _, _, _, _, _, _, _, _, _, _, _, _, _, _, _, _, _, _, _, _, _, _, ⟨q + 1, by omega, by go_num, HRR.out⟩, rfl⟩
                    · have hsw2 : Swp db b wz (R db (q + 1)) := by have := HIF.out; rw [if_neg hc4] at this; exact Swp.below this hBz
                      have HS2 := Lib.hid hsw2
                      have hc4i : ¬ (c : Int) = 4 := by omega
                      clear hBz hzz hsw2 HIF HO
                      go_wp2_with fail
                      go_roundw
                      case rel => exact ⟨a + 1, b, by go_num, by omega, HS2.out⟩
                      case measure => simp [intOf]; omega
              | false =>
                have hmod : ((q : Int) % (j : Int)) = ((q % j : Nat) : Int) := by omega
                have HMOD := Lib.hid hmod
                clear hmod
                go_wp2_with fail
                rw [HMOD.out]
                refine (HDEC.out (q % j) (Nat.lt_of_lt_of_le (Nat.mod_lt _ (by omega)) hk2) _).mono ?_
                rintro e we ⟨S, rfl, hS, hBe⟩
                have HCALL := Lib.hid (fun S (h : bytesN S = qW (q % j)) => HRO.out db q we S (HRB.out _ _ _ _ hd hBe) (by omega) h)
                have HS := Lib.hid hS
                have hSz : S.size = 1 := size_one hS
                clear hd hS hBe HMOD
                go_wp2_with fail
                refine (HCALL.out _ (by rw [bytesN_append, bytesN_append, HS.out]; rfl)).mono ?_
                rintro e wd ⟨⟨x1, x2, x3, ho, rfl⟩, hsw⟩
                have HO := Lib.hid ho; have HSW := Lib.hid hsw
                clear ho hsw HCALL
                go_wp2_with (refine wpList_fill rfl 39 (.tmp 20) (.tmp 97) rfl (.int .i64 0) x1 x2 x3 _ rfl rfl rfl Tryz.size39 rfl HO.out ?_)
                intro wz hBz hzz
                have hsw2 := Swp.below HSW.out hBz
                have c0 : wz.cell? ⟨wd.heap.size, 0, none⟩ = some (.int .i64 0) := fill_cell hzz rfl
                have HS0 := Lib.hid hsw2
                clear hBz hzz hsw2 HSW HO
                go_wp2_with fail
                clear c0
                obtain ⟨w5, hw5⟩ : ∃ w5, w5 = wz := ⟨_, rfl⟩
                subst hw5
                go_loopw [22] (fun i wr => ∃ a b : Nat, i = .int .i64 a ∧ a + b = 60 ∧ Swp db b wr (R db (q + 1))) (fun i _ => 60 - (intOf i).toNat)
                case atStart => exact ⟨0, 60, rfl, rfl, HS0.out⟩
                case round =>
                  clear HS0
                  obtain ⟨a, b, rfl, hab, hs⟩ := hrel
                  cases b with
                  | zero => exact hs.elim
                  | succ b =>
                    have HS := Lib.hid (hs wr (Below.refl _ _))
                    have hlt4 : (a : Int) < 400 := by omega
                    clear hs
                    go_wp2_with fail
                    refine HS.out.mono ?_
                    rintro e wd ⟨c, x1, x2, x3, ho, rfl, hif⟩
                    have HO := Lib.hid ho; have HIF := Lib.hid hif
                    clear ho hif HS
                    go_wp2_with (refine wpList_fill rfl 42 (.tmp 23) (.tmp 107) rfl (.int .i64 c) x1 x2 x3 _ rfl rfl rfl Tryz.size42 rfl HO.out ?_)
                    intro wz hBz hzz
                    have c0 : wz.cell? ⟨wd.heap.size, 0, none⟩ = some (.int .i64 c) := fill_cell hzz rfl
                    by_cases hc4 : c = 4
                    · have hr : R db (q + 1) wz := by have := HIF.out; rw [if_pos hc4] at this; exact HRB.out _ _ _ _ this hBz
                      have HRR := Lib.hid hr
                      have hc4i : (c : Int) = 4 := by omega
                      subst hc4
                      clear hBz hzz hr HIF HO
                      go_wp2_with fail
                      refine ⟨?_, by simp [intOf]; omega⟩
                      exact ⟨_, _, _, _, _, _, _, _, _, _, _, _, _, _, _, _, _, _, _, _, _, _, _, _, _, _, _, _, _, _, _, _, _, _, _, _, _, _, _, ⟨q + 1, by omega, by go_num, HRR.out⟩, rfl⟩
                    · have hsw2 : Swp db b wz (R db (q + 1)) := by have := HIF.out; rw [if_neg hc4] at this; exact Swp.below this hBz
                      have HS2 := Lib.hid hsw2
                      have hc4i : ¬ (c : Int) = 4 := by omega
                      clear hBz hzz hsw2 HIF HO
                      go_wp2_with fail
                      go_roundw
                      case rel => exact ⟨a + 1, b, by go_num, by omega, HS2.out⟩
                      case measure => simp [intOf]; omega
            · have hqm : q = m := by omega
              subst hqm
              have HSL := Lib.hid (fun S => HSEL.out db wr S hd)
              clear hd HSEL HRB HRO HR HDEC
              go_wp2_with fail
              refine (HSL.out _ rfl).mono ?_
              rintro e wd ⟨b1, cap1, b2, cap2, x1, x2, ho, rfl, c1, c2, c3, hb⟩
              have HO := Lib.hid ho; have C1 := Lib.hid c1; have C2 := Lib.hid c2; have C3 := Lib.hid c3; have HBB := Lib.hid hb
              clear ho c1 c2 c3 hb HSL
              go_wp2_with (refine wpList_fill rfl 39 (.tmp 24) (.tmp 116) rfl (.int .i64 0) x1 (.slice (some ⟨b1, 0, none⟩) 1 cap1) x2 _ rfl rfl rfl Tryz.size39 rfl ⟨HO.out.1, rfl, HO.out.2.1⟩ ?_)
              intro wz hBz hzz
              have c0 : wz.cell? ⟨wd.heap.size, 2, none⟩ = some (.slice (some ⟨b1, 0, none⟩) 1 cap1) := fill_cell hzz rfl
              have c1 := cell_kept hBz C1.out
              have c2 := cell_kept hBz C2.out
              have c3 := cell_kept hBz C3.out
              have HFIN := Lib.hid (show Below W.heap.size W wz from HBB.out.trans (hBz.mono HBB.out.size))
              clear hBz hzz C1 C2 C3 HO HBB
              cases all with
              | true =>
                rw [if_pos rfl] at c2
                have hwr : wrap64 ((1 + n % 24) * (j : Int)) = (q : Int) * (j : Int) := by
                  rw [← HM.out]
                  have h1 : q * j ≤ 24 * 10 := Nat.mul_le_mul hm2 hk2
                  have h2 : (q : Int) * (j : Int) = ((q * j : Nat) : Int) := by simp
                  rw [h2]
                  generalize q * j = p at h1
                  unfold wrap64; omega
                go_wp2_with fail
                go_ret
                exact ⟨rfl, HFIN.out⟩
              | false =>
                rw [if_neg (by decide)] at c2
                go_wp2_with fail
                go_ret
                exact ⟨rfl, HFIN.out⟩
end X
end Go.Proofs.YtnkjnclpakfgnaaGreatDoor
