/-
  SnapPlays, the walk: behind every script both sides tell the same of each snapshot, any transaction and any version.
-/
import Derived.Test.YtdohkjpapmkhjaaPlay
import Derived.Test.YtdohkjpapmkhjaaAwakeTen
import Derived.Test.YtdohkjpapmkhjaaRests
import Derived.Test.YtdohkjpapmkhjaaRefSnap
namespace Go.Proofs.Ytdohkjpapmkhjaa
open Go.RowKit

set_option maxHeartbeats 16000000 in
set_option maxRecDepth 100000 in
theorem snapPlays_any (a1 : Option Addr) (n1 cap1 : Nat) (a2 : Option Addr) (n2 cap2 : Nat) (w : World) (hs1 : Script2 w a1 n1) (_hn2 : n2 ≤ 9223372036854775807) (hs2 : Twos w a2 n2)
    (play : ∀ w1, Script2 w1 a1 n1 → Calls Try.prog 32 #[.slice a1 n1 cap1, .int .i64 40] w1 fun e w' => ∃ pb pl px c sv tv L S, e = .returned (.tuple #[.pointer (some ⟨pb, 0, none⟩), .bool true]) ∧ Pair w1 pb pl px c w' sv tv L L S ∧ L.length ≤ 1000 ∧ S.length ≤ 1000) :
    Calls Try.prog 11 #[.slice a1 n1 cap1, .slice a2 n2 cap2] w fun e w' => e = .returned (.bool true) ∧ Below w.heap.size w w' := by
  have HS1 := Lib.hid hs1; clear hs1
  have HS2 := Lib.hid hs2; clear hs2
  have HPL := Lib.hid play; clear play
  go_enter Try.func11, Try.ntmps11
  go_wp2_with fail
  refine (awake_ten w).mono ?_
  rintro e w1 ⟨rfl, b1⟩
  go_wp2_with fail
  refine (HPL.out w1 (HS1.out.keep b1)).mono ?_
  rintro e w2 ⟨pb, pl, px, c, sv, tv, L, S, rfl, hP, hL1, hS1⟩
  have hB2 : Below w1.heap.size w1 w2 := hP.below
  have hsl : ((S.map fun z => (z.1, z.2.1)).length) = S.length := by simp
  have hsr : ((S.map fun z => (z.1, z.2.2)).length) = S.length := by simp
  obtain ⟨sa, sc, hsv⟩ := ownsRow_slice hP.s.1
  rw [hsl] at hsv
  subst hsv
  obtain ⟨ta, tc, htv⟩ := ownsRow_slice hP.t.1
  rw [hsr] at htv
  subst htv
  have k0 : w2.cell? ⟨pb, 0, none⟩ = some (.pointer (some ⟨pl, 0, none⟩)) := cell_of_block hP.blk (i := 0) rfl
  have k1 : w2.cell? ⟨pb, 1, none⟩ = some (.pointer (some ⟨px, 0, none⟩)) := cell_of_block hP.blk (i := 1) rfl
  have k2 : w2.cell? ⟨pb, 2, none⟩ = some (.slice sa S.length sc) := cell_of_block hP.blk (i := 2) rfl
  have k3 : w2.cell? ⟨pb, 3, none⟩ = some (.slice ta S.length tc) := cell_of_block hP.blk (i := 3) rfl
  have hmin : ∀ x ∈ (S.map fun z => (z.1, z.2.2)), x.1.xmin = least2 x.1.xmax x.1.run := fun x hx => by
    obtain ⟨z, hz, rfl⟩ := List.mem_map.1 hx
    exact (hP.fits z hz).min
  have hmap : (S.map fun z => (z.1, z.2.1)).map (·.1.xmin) = (S.map fun z => (z.1, z.2.2)).map (·.1.xmin) := by simp
  obtain ⟨hz, hhz⟩ : ∃ hz, hz = least (1 + (L.length : Int)) ((S.map fun z => (z.1, z.2.2)).map (·.1.xmin)) := ⟨_, rfl⟩
  have HH1 := Lib.hid (show ∀ w', Below w2.heap.size w2 w' → Calls Try.prog 37 #[.pointer (some ⟨pl, 0, none⟩), .slice sa S.length sc] w' fun e w'' => e = .returned (.int .u64 hz) ∧ Below w'.heap.size w' w'' from fun w' hb => by
    have := horizon_at (hP.l.same hb) (hP.s.same hb)
    rw [hmap, ← hhz] at this; exact this)
  have HH2 := Lib.hid (show ∀ w', Below w2.heap.size w2 w' → Calls Try.prog 39 #[.pointer (some ⟨px, 0, none⟩), .slice ta S.length tc] w' fun e w'' => e = .returned (.int .u64 hz) ∧ Below w'.heap.size w' w'' from fun w' hb => by
    have := rhorizon_at (hP.x.same hb) (hP.t.same hb) hmin
    rw [← hhz] at this; exact this)
  have hzz : (hz != hz) = false := by simp
  clear hmap hmin hhz
  go_wp2_with fail
  have hC0 : Below w2.heap.size w2 w2.drew := below_drewN (n := 1)
  go_region_held3 (fun z => z.cell? ⟨pb, 0, none⟩ = some (.pointer (some ⟨pl, 0, none⟩)) ∧ z.cell? ⟨pb, 2, none⟩ = some (.slice sa S.length sc))
    (first | exact ⟨keeper hC1 k0, keeper hC1 k2⟩ | exact ⟨keeper hC0 k0, keeper hC0 k2⟩)
    (first | (go_at_call 37; (with_reducible refine (HH1.out _ hC0).mono ?_); rintro e wa ⟨rfl, hk1⟩; have hC1 := hC0.trans (hk1.mono hC0.size)))
  go_wp2_with fail
  have hD0 : Below w2.heap.size w2 wa.drew := hC1.trans (below_drewN (n := 1))
  go_region_held3 (fun z => z.cell? ⟨pb, 1, none⟩ = some (.pointer (some ⟨px, 0, none⟩)) ∧ z.cell? ⟨pb, 3, none⟩ = some (.slice ta S.length tc))
    (first | exact ⟨keeper hD1 k1, keeper hD1 k3⟩ | exact ⟨keeper hD0 k1, keeper hD0 k3⟩)
    (first | (go_at_call 39; (with_reducible refine (HH2.out _ hD0).mono ?_); rintro e wb ⟨rfl, hk2⟩; have hD1 := hD0.trans (hk2.mono hD0.size)))
  have hPb := hP.same hD1
  have p0b := keeper hD1 k0
  have p1b := keeper hD1 k1
  have p2b := keeper hD1 k2
  have p3b := keeper hD1 k3
  have hBb : Below w.heap.size w wb := b1.trans ((hB2.trans (hD1.mono hB2.size)).mono b1.size)
  clear hP k0 k1 k2 k3 HH1 HH2 hC0 hk1 hC1 hD0 hk2 hD1 hB2
  go_wp2_with fail
  go_loopw [44] (fun i wr => ∃ j : Nat, j ≤ n2 ∧ i = .int .i64 j ∧ Below wb.heap.size wb wr) (fun i _ => n2 - (intOf i).toNat)
  case atStart => exact ⟨0, Nat.zero_le _, rfl, Below.refl _ _⟩
  case round =>
    obtain ⟨j, hj, rfl, hBj⟩ := hrel
    have hBw := hBb.trans (hBj.mono hBb.size)
    by_cases hlt : j < n2
    · obtain ⟨b2, off2, x2, y2, ha2, hb2, s0, s1, hx0, hx1, hy0, hy1⟩ := HS2.out j hlt
      subst ha2
      have s0' := (hBw.cell (p := ⟨b2, off2 + j * 2, none⟩) hb2).trans s0
      have s1' := (hBw.cell (p := ⟨b2, off2 + j * 2 + 1, none⟩) hb2).trans s1
      clear s0 s1
      by_cases h20 : j < 20
      · have hj20 : (j : Int) < 20 := by omega
        have hxm : x2.tmod 40 = x2 % 40 := Int.tmod_eq_emod_of_nonneg hx0
        have hym : y2.tmod 40 = y2 % 40 := Int.tmod_eq_emod_of_nonneg hy0
        go_upto_if 53 with fail
        go_cut [] from 45 to 180 (fun wx => ∃ tx ty : Int, wx.cell? ⟨wr.heap.size, 0, none⟩ = some (.int .u64 tx) ∧ wx.cell? ⟨wr.heap.size, 1, none⟩ = some (.int .u64 ty) ∧ 0 ≤ tx ∧ tx < 18446744073709551616 ∧ 0 ≤ ty ∧ ty < 18446744073709551616 ∧ Below wr.heap.size wr wx)
        case first =>
          have hal : Below wr.heap.size wr (wr.alloc (.cells #[.int .u64 x2, .int .u64 y2] 86)) := (Below.refl _ _).alloc (Nat.le_refl _) _
          by_cases h3 : (j : Int) % 4 = 3
          · have hq : ((j : Int) % 4 != 3) = false := by rw [h3]; rfl
            go_wp2_with fail
            go_meet
            exact ⟨x2, y2, cell_of_block (heap_new1 wr _) rfl, cell_of_block (heap_new1 wr _) rfl, hx0, by omega, hy0, by omega, hal⟩
          · have hq : ((j : Int) % 4 != 3) = true := by rw [bne_iff_ne]; exact h3
            go_wp2_with fail
            go_meet
            exact ⟨x2 % 40, y2 % 40, cell_of_block (heap_new1 wr _) rfl, cell_of_block (heap_new1 wr _) rfl, by omega, by omega, by omega, by omega, (Below.refl _ _).alloc (Nat.le_refl _) _⟩
        case rest =>
          clear hxm hym s0' s1' hBw
          obtain ⟨tx, ty, v0c, v1c, htx0, htx, hty0, hty, hB9⟩ := hcut
          obtain ⟨b9, hb9⟩ : ∃ b9, b9 = wr.heap.size := ⟨_, rfl⟩
          rw [← hb9] at v0c v1c
          rw [← hb9]
          have hBc := hBj.trans (hB9.mono hBj.size)
          clear hb9 hB9
          go_wp2_with fail
          refine (tuple_agg tx ty _).mono ?_
          rintro e wt ⟨rfl, bt0⟩
          go_upto_region 16 with fail
          obtain ⟨wp, hwp⟩ : ∃ wp, wp = wt.alloc (.cells #[.int .u64 0, .int .u64 tx, .int .u64 ty, .int .i64 0, .int .i64 0, .slice none 0 0] 76) := ⟨_, rfl⟩
          obtain ⟨bt, hbt⟩ : ∃ bt, bt = wt.heap.size := ⟨_, rfl⟩
          have hH : wp.heap[bt]? = some (.cells #[.int .u64 0, .int .u64 tx, .int .u64 ty, .int .i64 0, .int .i64 0, .slice none 0 0] 76 (0, 0)) := by rw [hwp, hbt]; exact heap_new1 wt _
          have hBcp : Below wc.heap.size wc wp := by rw [hwp]; exact bt0.alloc bt0.size _
          rw [← hwp, ← hbt]
          clear hwp hbt bt0
          have t0 : wp.cell? ⟨bt, 0, none⟩ = some (.int .u64 0) := cell_of_block hH rfl
          have t1 : wp.cell? ⟨bt, 1, none⟩ = some (.int .u64 tx) := cell_of_block hH rfl
          have t2 : wp.cell? ⟨bt, 2, none⟩ = some (.int .u64 ty) := cell_of_block hH rfl
          have t3 : wp.cell? ⟨bt, 3, none⟩ = some (.int .i64 0) := cell_of_block hH rfl
          have t4 : wp.cell? ⟨bt, 4, none⟩ = some (.int .i64 0) := cell_of_block hH rfl
          have t5 : wp.cell? ⟨bt, 5, none⟩ = some (.slice none 0 0) := cell_of_block hH rfl
          have v0 := keeper hBcp v0c
          have v1 := keeper hBcp v1c
          have hBp := hBc.trans (hBcp.mono hBc.size)
          have hPp := hPb.same hBp
          have p0 := keeper hBp p0b
          have p1 := keeper hBp p1b
          have p2 := keeper hBp p2b
          have p3 := keeper hBp p3b
          clear hH v0c v1c hBcp
          obtain ⟨vd, hvd⟩ : ∃ vd, vd = deadB 1 L tx ty hz := ⟨_, rfl⟩
          obtain ⟨ve, hve⟩ : ∃ ve, ve = deadB 1 L tx ty ty := ⟨_, rfl⟩
          have HD1 := Lib.hid (show ∀ w', Below wp.heap.size wp w' → Calls Try.prog 38 #[.pointer (some ⟨pl, 0, none⟩), .agg #[.int .u64 0, .int .u64 tx, .int .u64 ty, .int .i64 0, .int .i64 0, .slice none 0 0], .int .u64 hz] w' fun e w'' => e = .returned (.bool vd) ∧ Below w'.heap.size w' w'' from fun w' hb => by rw [hvd]; exact dead_at (hPp.l.same hb) tx ty hz)
          have HD2 := Lib.hid (show ∀ w', Below wp.heap.size wp w' → Calls Try.prog 40 #[.pointer (some ⟨px, 0, none⟩), .agg #[.int .u64 0, .int .u64 tx, .int .u64 ty, .int .i64 0, .int .i64 0, .slice none 0 0], .int .u64 hz] w' fun e w'' => e = .returned (.bool vd) ∧ Below w'.heap.size w' w'' from fun w' hb => by rw [hvd]; exact rdead_at (hPp.x.same hb) tx ty hz htx hty hty0)
          have HD3 := Lib.hid (show ∀ w', Below wp.heap.size wp w' → Calls Try.prog 38 #[.pointer (some ⟨pl, 0, none⟩), .agg #[.int .u64 0, .int .u64 tx, .int .u64 ty, .int .i64 0, .int .i64 0, .slice none 0 0], .int .u64 ty] w' fun e w'' => e = .returned (.bool ve) ∧ Below w'.heap.size w' w'' from fun w' hb => by rw [hve]; exact dead_at (hPp.l.same hb) tx ty ty)
          have HD4 := Lib.hid (show ∀ w', Below wp.heap.size wp w' → Calls Try.prog 40 #[.pointer (some ⟨px, 0, none⟩), .agg #[.int .u64 0, .int .u64 tx, .int .u64 ty, .int .i64 0, .int .i64 0, .slice none 0 0], .int .u64 ty] w' fun e w'' => e = .returned (.bool ve) ∧ Below w'.heap.size w' w'' from fun w' hb => by rw [hve]; exact rdead_at (hPp.x.same hb) tx ty ty htx hty hty0)
          clear hvd hve
          have hdd : (vd != vd) = false := by simp
          have hee : (ve != ve) = false := by simp
          have hC0 : Below wp.heap.size wp wp.drew := below_drewN (n := 1)
          go_region_held3 (fun z => z.cell? ⟨pb, 0, none⟩ = some (.pointer (some ⟨pl, 0, none⟩)) ∧ z.cell? ⟨pb, 1, none⟩ = some (.pointer (some ⟨px, 0, none⟩)) ∧ z.cell? ⟨bt, 0, none⟩ = some (.int .u64 0) ∧ z.cell? ⟨bt, 1, none⟩ = some (.int .u64 tx) ∧ z.cell? ⟨bt, 2, none⟩ = some (.int .u64 ty) ∧ z.cell? ⟨bt, 3, none⟩ = some (.int .i64 0) ∧ z.cell? ⟨bt, 4, none⟩ = some (.int .i64 0) ∧ z.cell? ⟨bt, 5, none⟩ = some (.slice none 0 0) ∧ z.cell? ⟨b9, 1, none⟩ = some (.int .u64 ty))
            (first | exact ⟨keeper hC4 p0, keeper hC4 p1, keeper hC4 t0, keeper hC4 t1, keeper hC4 t2, keeper hC4 t3, keeper hC4 t4, keeper hC4 t5, keeper hC4 v1⟩ | exact ⟨keeper hC3 p0, keeper hC3 p1, keeper hC3 t0, keeper hC3 t1, keeper hC3 t2, keeper hC3 t3, keeper hC3 t4, keeper hC3 t5, keeper hC3 v1⟩ | exact ⟨keeper hC2 p0, keeper hC2 p1, keeper hC2 t0, keeper hC2 t1, keeper hC2 t2, keeper hC2 t3, keeper hC2 t4, keeper hC2 t5, keeper hC2 v1⟩ | exact ⟨keeper hC1 p0, keeper hC1 p1, keeper hC1 t0, keeper hC1 t1, keeper hC1 t2, keeper hC1 t3, keeper hC1 t4, keeper hC1 t5, keeper hC1 v1⟩ | exact ⟨keeper hC0 p0, keeper hC0 p1, keeper hC0 t0, keeper hC0 t1, keeper hC0 t2, keeper hC0 t3, keeper hC0 t4, keeper hC0 t5, keeper hC0 v1⟩)
            (first
              | (have _h := hC3; go_at_call 40; (with_reducible refine (HD4.out _ hC3).mono ?_); rintro e wc4 ⟨rfl, hk4⟩; have hC4 := hC3.trans (hk4.mono hC3.size))
              | (have _h := hC2; go_at_call 38; (with_reducible refine (HD3.out _ hC2).mono ?_); rintro e wc3 ⟨rfl, hk3⟩; have hC3 := hC2.trans (hk3.mono hC2.size))
              | (have _h := hC1; go_at_call 40; (with_reducible refine (HD2.out _ hC1).mono ?_); rintro e wc2 ⟨rfl, hk2⟩; have hC2 := hC1.trans (hk2.mono hC1.size))
              | (go_at_call 38; (with_reducible refine (HD1.out _ hC0).mono ?_); rintro e wc1 ⟨rfl, hk1⟩; have hC1 := hC0.trans (hk1.mono hC0.size)))
          clear HD1 HD2 HD3 HD4 hC0 hC1 hC2 hC3 hk1 hk2 hk3 hk4 hdd hee
          have hPq := hPp.same hC4
          have p0q := keeper hC4 p0
          have p1q := keeper hC4 p1
          have p2q := keeper hC4 p2
          have p3q := keeper hC4 p3
          have t0q := keeper hC4 t0
          have t1q := keeper hC4 t1
          have t2q := keeper hC4 t2
          have t3q := keeper hC4 t3
          have t4q := keeper hC4 t4
          have t5q := keeper hC4 t5
          have v0q := keeper hC4 v0
          have hBq := hBp.trans (hC4.mono hBp.size)
          clear hC4 hPp p0 p1 p2 p3 t0 t1 t2 t3 t4 t5 v0 v1 hBp
          go_wp2_with fail
          go_loopw [105] (fun i wv => ∃ k : Nat, k ≤ S.length ∧ i = .int .i64 k ∧ Below wc4.heap.size wc4 wv) (fun i _ => S.length - (intOf i).toNat)
          case atStart => exact ⟨0, Nat.zero_le _, rfl, Below.refl _ _⟩
          case round =>
            obtain ⟨k, hk, rfl, hBk⟩ := hrel
            by_cases hkl : k < S.length
            · have hPk := hPq.same hBk
              obtain ⟨g, cp, hg, c0, c1, c2, ⟨ra, rc, c3, hrv⟩, hrun, _⟩ := hPk.s.at (i := k) (by rw [hsl]; exact hkl)
              simp only [hsl, Value.slice.injEq] at hg
              obtain ⟨rfl, _, rfl⟩ := hg
              have hsn : (S.map fun z => (z.1, z.2.1))[k]'(by rw [hsl]; exact hkl) = (S[k].1, S[k].2.1) := by simp
              rw [hsn] at c0 c1 c2 c3 hrv hrun
              obtain ⟨gr, cpr, hgr, e0, e1, ⟨ra2, rc2, e2, hrv2⟩, hrun2, _⟩ := hPk.t.at (i := k) (by rw [hsr]; exact hkl)
              simp only [hsr, Value.slice.injEq] at hgr
              obtain ⟨rfl, _, rfl⟩ := hgr
              have hsn2 : (S.map fun z => (z.1, z.2.2))[k]'(by rw [hsr]; exact hkl) = (S[k].1, S[k].2.2) := by simp
              rw [hsn2] at e0 e1 e2 hrv2 hrun2
              obtain ⟨z, hzk⟩ : ∃ z, z = S[k] := ⟨_, rfl⟩
              simp only [← hzk] at c0 c1 c2 c3 hrv hrun e0 e1 e2 hrv2 hrun2
              clear hsn hsn2 hzk
              obtain ⟨s, rv, rv2⟩ := z
              simp only at c0 c1 c2 c3 hrv hrun e0 e1 e2 hrv2 hrun2
              subst hrv
              subst hrv2
              have hkS : (k : Int) < S.length := by omega
              go_upto_region 21 with fail
              obtain ⟨wo, hwo⟩ : ∃ wo, wo = wr.alloc (.cells #[.int .u64 s.own, .int .u64 s.xmin, .int .u64 s.xmax, .slice ra s.run.length rc] 66) := ⟨_, rfl⟩
              obtain ⟨bs, hbs⟩ : ∃ bs, bs = wr.heap.size := ⟨_, rfl⟩
              have hH : wo.heap[bs]? = some (.cells #[.int .u64 s.own, .int .u64 s.xmin, .int .u64 s.xmax, .slice ra s.run.length rc] 66 (0, 0)) := by rw [hwo, hbs]; exact heap_new1 wr _
              have hal : Below wr.heap.size wr wo := by rw [hwo]; exact (Below.refl _ _).alloc (Nat.le_refl _) _
              rw [← hwo, ← hbs]
              clear hwo hbs
              have s0 : wo.cell? ⟨bs, 0, none⟩ = some (.int .u64 s.own) := cell_of_block hH rfl
              have s1 : wo.cell? ⟨bs, 1, none⟩ = some (.int .u64 s.xmin) := cell_of_block hH rfl
              have s2 : wo.cell? ⟨bs, 2, none⟩ = some (.int .u64 s.xmax) := cell_of_block hH rfl
              have s3 : wo.cell? ⟨bs, 3, none⟩ = some (.slice ra s.run.length rc) := cell_of_block hH rfl
              have hBko := hBk.trans (hal.mono hBk.size)
              have p0 := keeper hBko p0q
              have p1 := keeper hBko p1q
              have p3 := keeper hBko p3q
              have t0 := keeper hBko t0q
              have t1 := keeper hBko t1q
              have t2 := keeper hBko t2q
              have t3 := keeper hBko t3q
              have t4 := keeper hBko t4q
              have t5 := keeper hBko t5q
              have v0 := keeper hBko v0q
              have r0 := keeper hal e0
              have r1 := keeper hal e1
              have r2 := keeper hal e2
              have hPo := hPk.same hal
              have hro := hrun.same hal
              have hro2 := hrun2.same hal
              clear hH hal c0 c1 c2 c3 e0 e1 e2 hPk hrun hrun2
              obtain ⟨vs, hvs⟩ : ∃ vs, vs = sees 1 L s tx := ⟨_, rfl⟩
              obtain ⟨vv, hvv⟩ : ∃ vv, vv = vis 1 L s tx ty := ⟨_, rfl⟩
              obtain ⟨vf, hvf⟩ : ∃ vf, vf = freeE 1 L s tx ty := ⟨_, rfl⟩
              have HS1c := Lib.hid (show ∀ w', Below wo.heap.size wo w' → Calls Try.prog 33 #[.pointer (some ⟨pl, 0, none⟩), .agg #[.int .u64 s.own, .int .u64 s.xmin, .int .u64 s.xmax, .slice ra s.run.length rc], .int .u64 tx] w' fun e w'' => e = .returned (.bool vs) ∧ Below w'.heap.size w' w'' from fun w' hb => by rw [hvs]; exact sees_at (hPo.l.same hb) (hro.same hb) tx)
              have HS2c := Lib.hid (show ∀ w', Below wo.heap.size wo w' → Calls Try.prog 41 #[.pointer (some ⟨px, 0, none⟩), .agg #[.int .u64 s.own, .int .u64 s.xmax, .slice ra2 s.run.length rc2], .int .u64 tx] w' fun e w'' => e = .returned (.bool vs) ∧ Below w'.heap.size w' w'' from fun w' hb => by rw [hvs]; exact rsees_at (hPo.x.same hb) (hro2.same hb) tx htx)
              have HV1c := Lib.hid (show ∀ w', Below wo.heap.size wo w' → Calls Try.prog 35 #[.pointer (some ⟨pl, 0, none⟩), .agg #[.int .u64 s.own, .int .u64 s.xmin, .int .u64 s.xmax, .slice ra s.run.length rc], .agg #[.int .u64 0, .int .u64 tx, .int .u64 ty, .int .i64 0, .int .i64 0, .slice none 0 0]] w' fun e w'' => e = .returned (.bool vv) ∧ Below w'.heap.size w' w'' from fun w' hb => by rw [hvv]; exact vis_at (hPo.l.same hb) (hro.same hb) tx ty)
              have HV2c := Lib.hid (show ∀ w', Below wo.heap.size wo w' → Calls Try.prog 42 #[.pointer (some ⟨px, 0, none⟩), .agg #[.int .u64 s.own, .int .u64 s.xmax, .slice ra2 s.run.length rc2], .agg #[.int .u64 0, .int .u64 tx, .int .u64 ty, .int .i64 0, .int .i64 0, .slice none 0 0]] w' fun e w'' => e = .returned (.bool vv) ∧ Below w'.heap.size w' w'' from fun w' hb => by rw [hvv]; exact rvis_at (hPo.x.same hb) (hro2.same hb) tx ty htx hty)
              have HF1c := Lib.hid (show ∀ w', Below wo.heap.size wo w' → Calls Try.prog 43 #[.pointer (some ⟨pl, 0, none⟩), .agg #[.int .u64 s.own, .int .u64 s.xmin, .int .u64 s.xmax, .slice ra s.run.length rc], .agg #[.int .u64 0, .int .u64 tx, .int .u64 ty, .int .i64 0, .int .i64 0, .slice none 0 0]] w' fun e w'' => e = .returned (.int .i64 vf) ∧ Below w'.heap.size w' w'' from fun w' hb => by rw [hvf]; exact free_at (hPo.l.same hb) (hro.same hb) tx ty)
              have HF2c := Lib.hid (show ∀ w', Below wo.heap.size wo w' → Calls Try.prog 44 #[.pointer (some ⟨px, 0, none⟩), .agg #[.int .u64 s.own, .int .u64 s.xmax, .slice ra2 s.run.length rc2], .agg #[.int .u64 0, .int .u64 tx, .int .u64 ty, .int .i64 0, .int .i64 0, .slice none 0 0]] w' fun e w'' => e = .returned (.int .i64 vf) ∧ Below w'.heap.size w' w'' from fun w' hb => by rw [hvf]; exact rfree_at (hPo.x.same hb) (hro2.same hb) tx ty htx hty)
              have hrl := hro.2
              have hvs2 : (vs != vs) = false := by simp
              have hvv2 : (vv != vv) = false := by simp
              have hvf2 : (vf != vf) = false := by simp
              clear hvs hvv hvf hro hro2
              try simp only [List.append_eq, List.cons_append, List.nil_append]
              have hC0 : Below wo.heap.size wo wo.drew := below_drewN (n := 1)
              go_region_held3 (fun z => z.cell? ⟨pb, 0, none⟩ = some (.pointer (some ⟨pl, 0, none⟩)) ∧ z.cell? ⟨pb, 1, none⟩ = some (.pointer (some ⟨px, 0, none⟩)) ∧ z.cell? ⟨pb, 3, none⟩ = some (.slice (some ⟨gr, 0, none⟩) S.length tc) ∧ z.cell? ⟨bs, 0, none⟩ = some (.int .u64 s.own) ∧ z.cell? ⟨bs, 1, none⟩ = some (.int .u64 s.xmin) ∧ z.cell? ⟨bs, 2, none⟩ = some (.int .u64 s.xmax) ∧ z.cell? ⟨bs, 3, none⟩ = some (.slice ra s.run.length rc) ∧ z.cell? ⟨bt, 0, none⟩ = some (.int .u64 0) ∧ z.cell? ⟨bt, 1, none⟩ = some (.int .u64 tx) ∧ z.cell? ⟨bt, 2, none⟩ = some (.int .u64 ty) ∧ z.cell? ⟨bt, 3, none⟩ = some (.int .i64 0) ∧ z.cell? ⟨bt, 4, none⟩ = some (.int .i64 0) ∧ z.cell? ⟨bt, 5, none⟩ = some (.slice none 0 0) ∧ z.cell? ⟨b9, 0, none⟩ = some (.int .u64 tx) ∧ z.cell? ⟨gr, k * 3, none⟩ = some (.int .u64 s.own) ∧ z.cell? ⟨gr, k * 3 + 1, none⟩ = some (.int .u64 s.xmax) ∧ z.cell? ⟨gr, k * 3 + 2, none⟩ = some (.slice ra2 s.run.length rc2))
                (first | exact ⟨keeper hC6 p0, keeper hC6 p1, keeper hC6 p3, keeper hC6 s0, keeper hC6 s1, keeper hC6 s2, keeper hC6 s3, keeper hC6 t0, keeper hC6 t1, keeper hC6 t2, keeper hC6 t3, keeper hC6 t4, keeper hC6 t5, keeper hC6 v0, keeper hC6 r0, keeper hC6 r1, keeper hC6 r2⟩ | exact ⟨keeper hC5 p0, keeper hC5 p1, keeper hC5 p3, keeper hC5 s0, keeper hC5 s1, keeper hC5 s2, keeper hC5 s3, keeper hC5 t0, keeper hC5 t1, keeper hC5 t2, keeper hC5 t3, keeper hC5 t4, keeper hC5 t5, keeper hC5 v0, keeper hC5 r0, keeper hC5 r1, keeper hC5 r2⟩ | exact ⟨keeper hC4 p0, keeper hC4 p1, keeper hC4 p3, keeper hC4 s0, keeper hC4 s1, keeper hC4 s2, keeper hC4 s3, keeper hC4 t0, keeper hC4 t1, keeper hC4 t2, keeper hC4 t3, keeper hC4 t4, keeper hC4 t5, keeper hC4 v0, keeper hC4 r0, keeper hC4 r1, keeper hC4 r2⟩ | exact ⟨keeper hC3 p0, keeper hC3 p1, keeper hC3 p3, keeper hC3 s0, keeper hC3 s1, keeper hC3 s2, keeper hC3 s3, keeper hC3 t0, keeper hC3 t1, keeper hC3 t2, keeper hC3 t3, keeper hC3 t4, keeper hC3 t5, keeper hC3 v0, keeper hC3 r0, keeper hC3 r1, keeper hC3 r2⟩ | exact ⟨keeper hC2 p0, keeper hC2 p1, keeper hC2 p3, keeper hC2 s0, keeper hC2 s1, keeper hC2 s2, keeper hC2 s3, keeper hC2 t0, keeper hC2 t1, keeper hC2 t2, keeper hC2 t3, keeper hC2 t4, keeper hC2 t5, keeper hC2 v0, keeper hC2 r0, keeper hC2 r1, keeper hC2 r2⟩ | exact ⟨keeper hC1 p0, keeper hC1 p1, keeper hC1 p3, keeper hC1 s0, keeper hC1 s1, keeper hC1 s2, keeper hC1 s3, keeper hC1 t0, keeper hC1 t1, keeper hC1 t2, keeper hC1 t3, keeper hC1 t4, keeper hC1 t5, keeper hC1 v0, keeper hC1 r0, keeper hC1 r1, keeper hC1 r2⟩ | exact ⟨keeper hC0 p0, keeper hC0 p1, keeper hC0 p3, keeper hC0 s0, keeper hC0 s1, keeper hC0 s2, keeper hC0 s3, keeper hC0 t0, keeper hC0 t1, keeper hC0 t2, keeper hC0 t3, keeper hC0 t4, keeper hC0 t5, keeper hC0 v0, keeper hC0 r0, keeper hC0 r1, keeper hC0 r2⟩)
                (first
                  | (have _h := hC5; go_at_call 44; (with_reducible refine (HF2c.out _ hC5).mono ?_); rintro e wz6 ⟨rfl, hk6⟩; have hC6 := hC5.trans (hk6.mono hC5.size))
                  | (have _h := hC4; go_at_call 43; (with_reducible refine (HF1c.out _ hC4).mono ?_); rintro e wz5 ⟨rfl, hk5⟩; have hC5 := hC4.trans (hk5.mono hC4.size))
                  | (have _h := hC3; go_at_call 42; (with_reducible refine (HV2c.out _ hC3).mono ?_); rintro e wz4 ⟨rfl, hk4⟩; have hC4 := hC3.trans (hk4.mono hC3.size))
                  | (have _h := hC2; go_at_call 35; (with_reducible refine (HV1c.out _ hC2).mono ?_); rintro e wz3 ⟨rfl, hk3⟩; have hC3 := hC2.trans (hk3.mono hC2.size))
                  | (have _h := hC1; go_at_call 41; (with_reducible refine (HS2c.out _ hC1).mono ?_); rintro e wz2 ⟨rfl, hk2⟩; have hC2 := hC1.trans (hk2.mono hC1.size))
                  | (go_at_call 33; (with_reducible refine (HS1c.out _ hC0).mono ?_); rintro e wz1 ⟨rfl, hk1⟩; have hC1 := hC0.trans (hk1.mono hC0.size)))
              have hBz := hBko.trans (hC6.mono hBko.size)
              clear HS1c HS2c HV1c HV2c HF1c HF2c hC0 hC1 hC2 hC3 hC4 hC5 hk1 hk2 hk3 hk4 hk5 hk6
              go_wp2_with fail
              go_roundw
              case rel => exact ⟨k + 1, by omega, by go_num, hBz⟩
              case measure => simp [intOf]; omega
            · have hke : ¬ (k : Int) < S.length := by omega
              go_wp2_with fail
              go_roundw
              case rel => exact ⟨j + 1, by omega, by go_num, hBq.trans (hBk.mono hBq.size)⟩
              case measure => simp [intOf]; omega
      · have hj20 : ¬ (j : Int) < 20 := by omega
        go_wp2_with fail
        go_ret
        exact ⟨rfl, hBw.trans (((Below.refl _ _).alloc (Nat.le_refl _) _).mono hBw.size)⟩
    · have hjl : ¬ (j : Int) < n2 := by omega
      go_wp2_with fail
      go_ret
      exact ⟨rfl, hBw⟩
end Go.Proofs.Ytdohkjpapmkhjaa
