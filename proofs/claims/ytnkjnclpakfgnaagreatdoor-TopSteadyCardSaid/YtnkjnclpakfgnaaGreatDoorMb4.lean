/- Package page: Stamp, Free. · Package page: move. · Package page: Insert. · The map of rooms, plainly: a tree of greatest rooms. No program, no condition. · Package room: New, Set, Find, of any map of rooms. No conditions. -/
import Derived.Test.YtnkjnclpakfgnaaGreatDoorMb3
import Derived.Deep.CutRange
import Derived.Deep.CutBlock
import Derived.WalkKit
namespace Go.Proofs.YtnkjnclpakfgnaaGreatDoor
open Go.RowKit
set_option maxRecDepth 100000
section
variable {w w' : World} {p : Nat} {f : Nat → Nat} {S : List (Option Ver)}

set_option maxHeartbeats 1000000 in
theorem stamp_at (h : Pg w p f) (hS : PageIs f S) (i : Nat) {v : Ver} (hi : S[i]? = some (some v)) {x : Nat} {pg sl : Int} (hx : x ≤ 1099511627776) (hf : FarOk pg sl) :
    Calls Tryz.prog 331 #[.pointer (some ⟨p, 0, none⟩), .int .i64 (i : Int), .int .u64 (x : Int), .agg #[.int .i64 pg, .int .i64 sl]] w fun e w' =>
      e = .returned (.int .i64 0) ∧ (∃ g, Pg w' p g ∧ PageIs g (S.set i (some (stampV v x pg sl))) ∧ w16 g 2 = w16 f 2) ∧ Upd (fun q => q = p) w w' := by
 have hfin := hS.stamp hi hx hf
 obtain ⟨k1, k2, k3, k4, k5⟩ := hS.yes i v hi
 have hlt := (List.getElem?_eq_some_iff.1 hi).1
 have hlo := hS.lo
 obtain ⟨wz, hwz⟩ : ∃ wz, wz = w.alloc (.cells #[.int .i64 pg, .int .i64 sl] 124) := ⟨_, rfl⟩
 obtain ⟨t, ht⟩ : ∃ t, t = w.heap.size := ⟨_, rfl⟩
 have hal : Below w.heap.size w wz := by subst hwz; exact (Below.refl _ _).alloc (Nat.le_refl _) _
 have hT : wz.heap[t]? = some (.cells #[.int .i64 pg, .int .i64 sl] 124 (0, 0)) := by subst hwz; subst ht; exact heap_new1 w _
 have hp : Pg wz p f := By.same h hal
 have hpt : p < t := by rw [ht]; exact By.lt h
 have hb := bytes_in hp hS i hi
 simp only [verV] at hb
 obtain ⟨A, hA⟩ : ∃ A, A = w16 f (4 + 4 * i) := ⟨_, rfl⟩
 rw [← hA] at hb hfin k3 k4
 obtain ⟨N, hN⟩ : ∃ N, N = 30 + v.data.length := ⟨_, rfl⟩
 rw [← hN] at hb k4
 obtain ⟨C, hC⟩ : ∃ C, C = 512 - A := ⟨_, rfl⟩
 rw [← hC] at hb
 obtain ⟨pn, rfl, hpn⟩ : ∃ n : Nat, pg = (n : Int) - 1 ∧ n ≤ 65536 := ⟨(pg + 1).toNat, by unfold FarOk at hf; omega, by unfold FarOk at hf; omega⟩
 obtain ⟨sn, rfl, hsn⟩ : ∃ n : Nat, sl = (n : Int) - 1 ∧ n ≤ 65535 := ⟨(sl + 1).toNat, by unfold FarOk at hf; omega, by unfold FarOk at hf; omega⟩
 have e4 : ((pn : Int) - 1 + 1).toNat = pn := by omega
 have e5 : ((sn : Int) - 1 + 1).toNat = sn := by omega
 have hst : stF f A x ((pn : Int) - 1) ((sn : Int) - 1) = spl (spl (spl f (A + 16) (leB 8 x)) (A + 24) (leB 4 pn)) (A + 28) (leB 2 sn) := by unfold stF; rw [e4, e5]
 have hge : w16 (stF f A x ((pn : Int) - 1) ((sn : Int) - 1)) 2 = w16 f 2 := by unfold w16; rw [stF_out (by omega), stF_out (by omega)]
 rw [hst] at hfin hge
 have H := Lib.hid hb
 have hfar : ∀ n, Calls Tryz.prog 379 #[.agg #[.int .i64 ((pn : Int) - 1), .int .i64 ((sn : Int) - 1)]] (wz.drewN n) _ := fun n => far_at hf (wz.drewN n)
 have HF := Lib.hid hfar
 have HT := Lib.hid ht; have HWZ := Lib.hid hwz; have HTB := Lib.hid hT; have HP := Lib.hid hp; have HFIN := Lib.hid hfin; have HGE := Lib.hid hge; have HST := Lib.hid hst
 have c0 := cell_of_block hT (i := 0) rfl
 have c1 := cell_of_block hT (i := 1) rfl
 have heq := eql_some ⟨p, A, none⟩
 have d0 : decide (1099511627776 < (x : Int)) = false := by simp; omega
 have n24 : (30 : Int) ≤ N := by omega
 have c24 : (30 : Int) ≤ C := by omega
 have c28 : (28 : Int) ≤ C := by omega
 have m24 : ¬ C = 24 := by omega
 have m28 : ¬ C = 28 := by omega
 have a24 : A + 30 ≤ 512 := by omega
 have hsz := hal.size
 clear hC hwz ht hT hi h hb hfar hp k1 k2 k3 k5 hlo hlt hfin hge hst e4 e5 hN hf hA
 go_enter Tryz.func331, Tryz.ntmps331
 go_wp2_with fail
 rw [← HWZ.out, ← HT.out]
 (with_reducible refine H.out.mono ?_)
 rintro r w1 ⟨rfl, n, rfl⟩
 go_wp2_with fail
 (with_reducible refine (HF.out n).mono ?_)
 rintro r w2 ⟨rfl, hk2⟩
 have q2 : Below wz.heap.size wz w2 := below_drewN.trans hk2
 have B2 := Lib.hid (By.same HP.out q2)
 have hpne : p ≠ t := by omega
 go_wp2_with fail
 refine (put_at B2.out (A + 16) 8 _ x (by decide) (by omega) (by decide) (by omega)).mono ?_
 rintro r w3 ⟨rfl, b3, u3⟩
 have q3 : Upd (fun q => q = p) wz w3 := (Upd.same q2).trans u3
 have c2 := cell_of_block (q3.heap HTB.out (Ne.symm hpne)) (i := 0) rfl
 have B3 := Lib.hid b3; clear b3 u3 c0 c1
 go_wp2_with fail
 go_still_tail 6, (by kernel_rfl)
 change wpList _ _ _ _ _ w3.drew
 go_wp2_with fail
 refine (put_at B3.out.drew (A + 24) 4 _ pn (by decide) (by omega) (by decide) (by omega)).mono ?_
 rintro r w4 ⟨rfl, b4, u4⟩
 have q4 : Upd (fun q => q = p) wz w4 := (q3.drewN 1).trans u4
 have c3 := cell_of_block (q4.heap HTB.out (Ne.symm hpne)) (i := 1) rfl
 have B4 := Lib.hid b4; clear b4 u4 c2
 go_wp2_with fail
 go_still_tail 6, (by kernel_rfl)
 change wpList _ _ _ _ _ w4.drew
 go_wp2_with fail
 refine (put_at B4.out.drew (A + 28) 2 _ sn (by decide) (by omega) (by decide) (by omega)).mono ?_
 rintro r w5 ⟨rfl, b5, u5⟩
 have q5 : Upd (fun q => q = p) wz w5 := (q4.drewN 1).trans u5
 go_wp2_with fail
 go_ret
 exact ⟨rfl, ⟨_, b5, HFIN.out, HGE.out⟩, (Upd.same hal).trans_new q5 (fun b _ e => e)⟩

/-- What is left behind a version is freed: nothing at i, and the free slots at the end are gone. -/
def Freed (S : List (Option Ver)) (i : Nat) (S' : List (Option Ver)) : Prop := ∃ m, m ≤ S.length ∧ (∀ k, m ≤ k → k < S.length → (S.set i none)[k]? = some none) ∧ S' = (S.set i none).take m ∧ ∀ j, m = j + 1 → ∃ u, (S.set i none)[j]? = some (some u)

set_option maxHeartbeats 2000000 in
theorem pgfree_at (h : Pg w p f) (hS : PageIs f S) (i : Nat) {v : Ver} (hi : S[i]? = some (some v)) :
    Calls Tryz.prog 146 #[.pointer (some ⟨p, 0, none⟩), .int .i64 (i : Int)] w fun e w' =>
      e = .returned (.int .i64 0) ∧ (∃ g S', Pg w' p g ∧ PageIs g S' ∧ Freed S i S') ∧ Upd (fun q => q = p) w w' := by
 have hg := hS.gone hi
 obtain ⟨k1, k2, k3, k4, k5⟩ := hS.yes i v hi
 have hlt := (List.getElem?_eq_some_iff.1 hi).1
 have hlo := hS.lo
 have hb := bytes_in h hS i hi
 simp only [verV] at hb
 obtain ⟨A, hA⟩ : ∃ A, A = w16 f (4 + 4 * i) := ⟨_, rfl⟩
 rw [← hA] at hb hg k3 k4
 obtain ⟨N, hN⟩ : ∃ N, N = 30 + v.data.length := ⟨_, rfl⟩
 rw [← hN] at hb hg k4
 have hclr : ∀ n c ty, (Builtin.clear_ #[23] ty #[.slice (some ⟨p, A, none⟩) N c]).run Tryz.prog (w.drewN n) = .ok (.tuple #[]) ((w.drewN n).setCells p A (List.replicate N (.int .u8 0))) := fun n c ty => run_clear_by (By.drewN h n) A N c k4 ty
 have hpt : ∀ n, Calls Tryz.prog 225 #[.pointer (some ⟨p, 0, none⟩), .int .i64 (i : Int), .int .i64 (0 : Nat), .int .i64 (0 : Nat)] ((w.drewN n).setCells p A (List.replicate N (.int .u8 0))) _ := fun n => point_at ((By.drewN h n).clr A N k4).1 i 0 0 (by omega) (by decide) (by decide)
 obtain ⟨S1, hS1⟩ : ∃ S1, S1 = S.set i none := ⟨_, rfl⟩
 rw [← hS1] at hg
 have hl1 : S1.length = S.length := by rw [hS1]; simp
 obtain ⟨g, hgd⟩ : ∃ g, g = ptF (spl f A (zeros N)) i 0 0 := ⟨_, rfl⟩
 rw [← hgd] at hg hpt
 have h16 : 4 + 4 * S.length ≤ 482 := by omega
 have H := Lib.hid hb; have HCL := Lib.hid hclr; have HPT := Lib.hid hpt; have HG := Lib.hid hg; have HS1 := Lib.hid hS1; have HL1 := Lib.hid hl1; have HU := Lib.hid fun n => ((By.drewN h n).clr A N k4).2
 have heq := eql_some
 have heqn := eql_nil
 clear hA hN k1 k2 k3 k5 hi hb hclr hpt hg hS1 hl1 hgd h hS
 go_enter Tryz.func146, Tryz.ntmps146
 go_wp2_with fail
 (with_reducible refine H.out.mono ?_)
 rintro r w1 ⟨rfl, n, rfl⟩
 have hcl := HCL.out n
 go_wp2_with fail
 clear hcl
 refine (HPT.out n).mono ?_
 rintro r w2 ⟨rfl, b2, u2⟩
 have q2 : Upd (fun q => q = p) w w2 := ((Upd.of_drewN n).trans (HU.out n)).trans u2
 have hcount : ∀ n, Calls Tryz.prog 161 #[.pointer (some ⟨p, 0, none⟩)] (w2.drewN n) fun e w' => e = .returned (.int .i64 (S1.length : Int)) ∧ w' = w2.drewN n := fun n => by
  have := count_at (By.drewN b2 n); rw [HG.out.cnt] at this; exact this
 have hc0 : Calls Tryz.prog 161 #[.pointer (some ⟨p, 0, none⟩)] w2 fun e w' => e = .returned (.int .i64 (S1.length : Int)) ∧ w' = w2 := hcount 0
 have HC := Lib.hid hcount; have HC0 := Lib.hid hc0
 have HB := Lib.hid fun (n k : Nat) (x : Option Ver) (hx : S1[k]? = some x) => bytes_in (By.drewN b2 n) HG.out k hx
 have B2 := Lib.hid b2
 have hl1 : S1.length ≤ 119 := by have := HL1.out; omega
 clear hcount hc0 b2 u2
 go_wp2_with (go_at_call 161; (with_reducible refine (flp HC0.out).mono ?_); rintro e w1 ⟨rfl, rfl⟩)
 go_loopw [6] (fun mv wr => ∃ m : Nat, m ≤ S1.length ∧ mv = .int .i64 (m : Int) ∧ (∃ n, wr = w2.drewN n) ∧ ∀ k, m ≤ k → k < S1.length → S1[k]? = some none) (fun mv _ => (intOf mv).toNat)
 case atStart => exact ⟨S1.length, Nat.le_refl _, rfl, ⟨0, rfl⟩, fun k h1 h2 => by omega⟩
 case round =>
  obtain ⟨m, hm, rfl, ⟨n2, rfl⟩, hk⟩ := hrel
  have HK := Lib.hid hk; clear hk
  have key : ∀ (mm : Nat), m = mm → True := fun _ _ => trivial
  cases m with
  | zero =>
   go_wp2_with fail
   have hsl := sl_lh p (4) (4 + 4 * S1.length) (4) (4 + 4 * (S1.length : Int)) (by omega) (by omega) (by omega) (by omega) (by omega)
   obtain ⟨Z, hZ, hZ2⟩ : ∃ Z, 4 + 4 * S1.length - (4) = Z ∧ Z = 4 * (S1.length - (0)) := ⟨_, rfl, by omega⟩
   rw [hZ] at hsl
   have hcl2 : ∀ c ty, (Builtin.clear_ #[23] ty #[.slice (some ⟨p, 4, none⟩) Z c]).run Tryz.prog (w2.drewN (n2 + 1)) = .ok (.tuple #[]) ((w2.drewN (n2 + 1)).setCells p (4) (List.replicate Z (.int .u8 0))) := fun c ty => run_clear_by (By.drewN B2.out _) (4) Z c (by omega) ty
   have HZ2 := Lib.hid hZ2
   clear hZ hZ2
   have wl1 : IntKind.i64.wrap (4 * (S1.length : Int)) = 4 * (S1.length : Int) := IntWalk.i64_in _ (by omega)
   have wl2 : IntKind.i64.wrap (4 + 4 * (S1.length : Int)) = 4 + 4 * (S1.length : Int) := IntWalk.i64_in _ (by omega)
   have wz0 : IntKind.i64.wrap 0 = 0 := by decide
   have wz4 : IntKind.i64.wrap 4 = 4 := by decide
   go_still_tail 11, (by kernel_rfl)
   still_call (HC.out (n2 + 1))
   repeat still_step
   refine wpStill_nil ?_
   change wpList _ _ _ _ _ (w2.drewN (n2 + 1))
   go_wp2_with fail
   obtain ⟨b3, u3⟩ := (By.drewN B2.out (n2 + 1)).clr (4) Z (by have := HZ2.out; omega)
   generalize (w2.drewN (n2 + 1)).setCells p (4) (List.replicate Z (.int .u8 0)) = w3 at *
   have hst := start_at b3
   have hcut := HG.out.cut (n := 0) (by omega)
   have e2 : w16 (spl g (4) (zeros Z)) 2 = w16 g 2 := w16_spl_out (by omega)
   rw [e2] at hst
   have h16 := w16_lt B2.out.1 2
   have hse := set_page b3 (0) (w16 g 2) (by omega) h16
   have hz3 := HZ2.out
   rw [hz3] at hse
   have HST := Lib.hid hst; have HSE := Lib.hid hse; have HCUT := Lib.hid hcut; have HH := Lib.hid (fun k => HK.out k)
   clear hst hse hcut hcl2 e2 b3 hz3
   (with_reducible refine (flp HST.out).mono ?_)
   rintro r w4 ⟨rfl, rfl⟩
   go_wp2_with fail
   refine HSE.out.mono ?_
   rintro r w4 ⟨rfl, b4, u4⟩
   go_wp2_with fail
   go_ret
   exact ⟨rfl, ⟨_, _, b4, HCUT.out, 0, by have := HL1.out; omega, fun k h1 h2 => by have := HK.out k h1 (by have := HL1.out; omega); rw [HS1.out] at this; exact this, by rw [HS1.out], fun j e => by cases e⟩, ((q2.trans (Upd.of_drewN _)).trans u3).trans u4⟩
  | succ m =>
   obtain ⟨x, hx⟩ : ∃ x, S1[m]? = some x := ⟨S1[m], List.getElem?_eq_getElem (by omega)⟩
   have hb := HB.out n2 m x hx
   have HX := Lib.hid hx; clear hx
   cases x with
   | none =>
    simp only [verV] at hb
    go_wp2_with (go_at_call 134; (with_reducible refine hb.mono ?_); rintro e w1 ⟨rfl, k, rfl⟩)
    go_roundw
    case rel => exact ⟨m, by omega, by go_num, ⟨n2 + k, rfl⟩, fun j h1 h2 => if e : j = m then by rw [e]; exact HX.out else HK.out j (by omega) h2⟩
    case measure => simp [intOf]
   | some u =>
    simp only [verV] at hb
    go_wp2_with (go_at_call 134; (with_reducible refine hb.mono ?_); rintro e w1 ⟨rfl, k, rfl⟩)
    have hsl := sl_lh p (4 + 4 * (m + 1)) (4 + 4 * S1.length) (4 + 4 * ((m : Int) + 1)) (4 + 4 * (S1.length : Int)) (by omega) (by omega) (by omega) (by omega) (by omega)
    obtain ⟨Z, hZ, hZ2⟩ : ∃ Z, 4 + 4 * S1.length - (4 + 4 * (m + 1)) = Z ∧ Z = 4 * (S1.length - (m + 1)) := ⟨_, rfl, by omega⟩
    rw [hZ] at hsl
    have hcl2 : ∀ c ty, (Builtin.clear_ #[23] ty #[.slice (some ⟨p, 4 + 4 * (m + 1), none⟩) Z c]).run Tryz.prog (w2.drewN (n2 + k + 1)) = .ok (.tuple #[]) ((w2.drewN (n2 + k + 1)).setCells p (4 + 4 * (m + 1)) (List.replicate Z (.int .u8 0))) := fun c ty => run_clear_by (By.drewN B2.out _) (4 + 4 * (m + 1)) Z c (by omega) ty
    have HZ2 := Lib.hid hZ2
    clear hZ hZ2
    have wl1 : IntKind.i64.wrap (4 * (S1.length : Int)) = 4 * (S1.length : Int) := IntWalk.i64_in _ (by omega)
    have wl2 : IntKind.i64.wrap (4 + 4 * (S1.length : Int)) = 4 + 4 * (S1.length : Int) := IntWalk.i64_in _ (by omega)
    have wm1 : IntKind.i64.wrap (4 * ((m : Int) + 1)) = 4 * ((m : Int) + 1) := IntWalk.i64_in _ (by omega)
    have wm2 : IntKind.i64.wrap (4 + 4 * ((m : Int) + 1)) = 4 + 4 * ((m : Int) + 1) := IntWalk.i64_in _ (by omega)
    go_still_tail 11, (by kernel_rfl)
    still_call (HC.out (n2 + k + 1))
    repeat still_step
    refine wpStill_nil ?_
    change wpList _ _ _ _ _ (w2.drewN (n2 + k + 1))
    go_wp2_with fail
    obtain ⟨b3, u3⟩ := (By.drewN B2.out (n2 + k + 1)).clr (4 + 4 * (m + 1)) Z (by have := HZ2.out; omega)
    generalize (w2.drewN (n2 + k + 1)).setCells p (4 + 4 * (m + 1)) (List.replicate Z (.int .u8 0)) = w3 at *
    have hst := start_at b3
    have hcut := HG.out.cut (n := m + 1) (by omega)
    have e2 : w16 (spl g (4 + 4 * (m + 1)) (zeros Z)) 2 = w16 g 2 := w16_spl_out (by omega)
    rw [e2] at hst
    have h16 := w16_lt B2.out.1 2
    have hse := set_page b3 (m + 1) (w16 g 2) (by omega) h16
    have hz3 := HZ2.out
    rw [hz3] at hse
    have HST := Lib.hid hst; have HSE := Lib.hid hse; have HCUT := Lib.hid hcut; have HH := Lib.hid (fun k => HK.out k)
    clear hst hse hcut hcl2 e2 b3 hz3
    (with_reducible refine (flp HST.out).mono ?_)
    rintro r w4 ⟨rfl, rfl⟩
    go_wp2_with fail
    refine HSE.out.mono ?_
    rintro r w4 ⟨rfl, b4, u4⟩
    go_wp2_with fail
    go_ret
    exact ⟨rfl, ⟨_, _, b4, HCUT.out, m + 1, by have := HL1.out; omega, fun k h1 h2 => by have := HK.out k h1 (by have := HL1.out; omega); rw [HS1.out] at this; exact this, by rw [HS1.out], fun j e => by cases e; exact ⟨u, by rw [← HS1.out]; exact HX.out⟩⟩, ((q2.trans (Upd.of_drewN _)).trans u3).trans u4⟩
end
end Go.Proofs.YtnkjnclpakfgnaaGreatDoor
namespace Go.Proofs.YtnkjnclpakfgnaaGreatDoor
open Go.RowKit
set_option maxRecDepth 100000
theorem size395 : (Tryz.prog.info? 395).map (·.size) = some 512 := by kernel_rfl
theorem blkA_one (n : Nat) (f : Nat → Nat) : (blkA n f).all (·.oneCell') = true := by
 rw [Array.all_eq_true_iff_forall_mem]
 intro x hx
 simp [blkA] at hx
 obtain ⟨_, _, rfl⟩ := hx; rfl
theorem wpList_load_pg {w : World} {p : Nat} {f : Nat → Nat} {ops : Array Oper} {rest : List Oper} {o : Oper} {a : Act} {Q : Exit → Act → World → Prop} (hgd : o.guard = none) (x : Operand) (ho : o.op = .load 395 x)
   (hx : a.eval x = .pointer (some ⟨p, 0, none⟩)) (hp : Pg w p f) (h : wpList Tryz.prog ops Q rest (a.put o.dst (.agg (blkA 512 f))) w) : wpList Tryz.prog ops Q (o :: rest) a w :=
 wpList_plain hgd fun K hK => wp_load_row 395 x ho p hx 395 (blkA 512 f) (0, 0) _ hp.2 Tryz.underlying395 rfl (by rw [size395, blkA_size]) (hK _ _ h)
theorem wpList_store_pg {w : World} {q : Nat} {f : Nat → Nat} {ops : Array Oper} {rest : List Oper} {o : Oper} {a : Act} {Q : Exit → Act → World → Prop} (hgd : o.guard = none) (x y : Operand) (ho : o.op = .store 395 x y)
   (hx : a.eval x = .pointer (some ⟨q, 0, none⟩)) (hy : a.eval y = .agg (blkA 512 f)) {old : Array Value} (hq : w.heap[q]? = some (.cells old 395 (0, 0))) (hold : old.size = 512) (hf : ∀ i, f i < 256)
   (h : ∀ w', Pg w' q f → Upd (fun b => b = q) w w' → wpList Tryz.prog ops Q rest (a.put o.dst undef) w') : wpList Tryz.prog ops Q (o :: rest) a w :=
 wpList_plain hgd fun K hK => wp_store_row 395 x y ho q (blkA 512 f) hx hy 395 old hq (by rw [size395, blkA_size]) (by rw [hold, blkA_size]) (blkA_one _ _)
  (hK _ _ (h _ ⟨hf, setRow_heap w q _ _ 395 _ hq⟩ ⟨rfl, rfl, rfl, by simp [World.setRow], fun k _ hne => setRow_other w q k _ (fun e => hne e)⟩))
section
variable {w w' : World} {p : Nat} {f : Nat → Nat} {S : List (Option Ver)}

theorem move_at (h : Pg w p f) (hS : PageIs f S) (hs : 4 + 4 * S.length + used S < 512) :
    Calls Tryz.prog 414 #[.pointer (some ⟨p, 0, none⟩)] w fun e w' =>
      e = .returned (.tuple #[]) ∧ (∃ g, Pg w' p g ∧ PageIs g S ∧ w16 g 2 = 512 - used S) ∧ Upd (fun q => q = p) w w' := by
 have H := Lib.hid h
 have HS := Lib.hid hS
 have hlen := hS.len
 have hz : Tryz.zeroCells395.size = 512 := by kernel_rfl
 have HZ := Lib.hid hz
 have hlt := By.lt h
 clear hz h hS
 go_enter Tryz.func414, Tryz.ntmps414
 go_wp2_with (first | (with_reducible refine wpList_load_pg rfl (.tmp 7) rfl rfl H.out ?_) | (refine wpList_store_pg rfl (.tmp 2) (.tmp 8) rfl rfl rfl (heap_new1 w _) HZ.out H.out.1 ?_; intro w1 hp1 hu1))
 obtain ⟨q, hq⟩ : ∃ q, q = w.heap.size := ⟨_, rfl⟩
 rw [← hq] at hp1 hu1 hlt ⊢
 have hU1 : Upd (fun b => b = p ∨ b = q) w w1 := ((Upd.refl _ w).alloc _).trans_new hu1 (fun b hb e => .inr e)
 have hpp : Pg w1 p f := By.upd (By.same (w' := w.alloc (.cells Tryz.zeroCells395 395)) H.out ((Below.refl _ _).alloc (Nat.le_refl _) _)) hu1 (by omega)
 have hsl := sl_lo p (4 + 4 * S.length) (4 + 4 * (S.length : Int)) (by omega) (by omega)
 obtain ⟨L, hL⟩ : ∃ L, L = 4 + 4 * S.length := ⟨_, rfl⟩
 rw [← hL] at hsl
 have hcl2 : ∀ c ty, (Builtin.clear_ #[23] ty #[.slice (some ⟨p, L, none⟩) (512 - L) c]).run Tryz.prog w1.drew = .ok (.tuple #[]) (w1.drew.setCells p L (List.replicate (512 - L) (.int .u8 0))) := fun c ty => run_clear_by (By.drew hpp) L (512 - L) c (by omega) ty
 have hcount : Calls Tryz.prog 161 #[.pointer (some ⟨p, 0, none⟩)] w1.drew fun e w' => e = .returned (.int .i64 (S.length : Int)) ∧ w' = w1.drew := by
  have := count_at (By.drew hpp); rw [HS.out.cnt] at this; exact this
 have wl1 : IntKind.i64.wrap (4 * (S.length : Int)) = 4 * (S.length : Int) := IntWalk.i64_in _ (by omega)
 have wl2 : IntKind.i64.wrap (4 + 4 * (S.length : Int)) = 4 + 4 * (S.length : Int) := IntWalk.i64_in _ (by omega)
 have HC := Lib.hid hcount; have HL := Lib.hid hL; have HQ := Lib.hid hq; have HPP := Lib.hid hpp; have HP1 := Lib.hid hp1
 clear hcount hL hq hpp hp1 hu1
 go_still_tail 8, (by kernel_rfl)
 still_call (HC.out)
 repeat still_step
 refine wpStill_nil ?_
 change wpList _ _ _ _ _ w1.drew
 go_wp2_with fail
 obtain ⟨b2, u2⟩ := (By.drew HPP.out).clr L (512 - L) (by have := HL.out; omega)
 have hq2 : Pg (w1.drew.setCells p L (List.replicate (512 - L) (.int .u8 0))) q f := By.upd (By.drew HP1.out) u2 (by omega)
 have hU2 : Upd (fun b => b = p ∨ b = q) w (w1.drew.setCells p L (List.replicate (512 - L) (.int .u8 0))) := hU1.drew.trans (u2.mono (fun b _ e => .inl e))
 generalize (w1.drew.setCells p L (List.replicate (512 - L) (.int .u8 0))) = w2 at *
 have hmv := Mv.start HS.out (512 - L)
 rw [← HL.out] at hmv
 clear hcl2 hsl wl1 wl2 u2 hU1
 have hcount : Calls Tryz.prog 161 #[.pointer (some ⟨q, 0, none⟩)] w2 fun e w' => e = .returned (.int .i64 (S.length : Int)) ∧ w' = w2 := by
  have := count_at hq2; rw [HS.out.cnt] at this; exact this
 have HC2 := Lib.hid hcount; have HMV := Lib.hid hmv; have B2 := Lib.hid b2; have Q2 := Lib.hid hq2; have U2 := Lib.hid hU2
 clear hcount hmv b2 hq2 hU2
 go_wp2_with (go_at_call 161; (with_reducible refine (flp HC2.out).mono ?_); rintro e w3 ⟨rfl, rfl⟩)
 go_loopw [3, 18] (fun av iv wr => ∃ (i A : Nat) (g : Nat → Nat), i ≤ S.length ∧ iv = .int .i64 (i : Int) ∧ av = .int .i64 (A : Int) ∧ Mv S i A g ∧ Pg wr p g ∧ Pg wr q f ∧ Upd (fun b => b = p ∨ b = q) w wr) (fun _ iv _ => S.length - (intOf iv).toNat)
 case atStart => exact ⟨0, 512, _, Nat.zero_le _, rfl, rfl, HMV.out, B2.out, Q2.out, U2.out⟩
 case round =>
  obtain ⟨i, A, g, hi, rfl, rfl, hmv, hp3, hq3, hU3⟩ := hrel
  by_cases hlt2 : i < S.length
  · obtain ⟨x, hx⟩ : ∃ x, S[i]? = some x := ⟨S[i], List.getElem?_eq_getElem hlt2⟩
    have hb := bytes_in hq3 HS.out i hx
    cases x with
    | none =>
     simp only [verV] at hb
     have hsk := hmv.skip hx
     have HB := Lib.hid hb; have HSK := Lib.hid hsk; have HP3 := Lib.hid hp3; have HQ3 := Lib.hid hq3; have HU3 := Lib.hid hU3
     have heqn := eql_nil
     clear hb hsk hp3 hq3 hU3 hmv hx
     go_wp2_with (go_at_call 134; (with_reducible refine HB.out.mono ?_); rintro e w1 ⟨rfl, k, rfl⟩)
     go_roundw
     case rel => exact ⟨i + 1, A, g, by omega, by go_num, rfl, HSK.out, By.drewN HP3.out k, By.drewN HQ3.out k, HU3.out.drewN k⟩
     case measure => simp [intOf]; omega
    | some v =>
     simp only [verV] at hb
     obtain ⟨k1, k2, k3, k4, k5⟩ := HS.out.yes i v hx
     obtain ⟨hge, hst⟩ := hmv.step hx (by omega) k1.2.2.2.2.1
     have hpk : (packV v).length = 30 + v.data.length := packV_length v
     have hsum := hmv.sum
     obtain ⟨N, hN⟩ : ∃ N, N = 30 + v.data.length := ⟨_, rfl⟩
     rw [← hN] at hb k2 k4 k5 hge hst hpk
     have hbs : ∀ k, Bs (wr.drewN k) (.slice (some ⟨q, w16 f (4 + 4 * i), none⟩) N (512 - w16 f (4 + 4 * i))) (packV v) := fun k => by
      have := By.bs (cap := 512 - w16 f (4 + 4 * i)) (l := packV v) (By.drewN hq3 k) (by rw [hpk]; omega) (by rw [hpk]; exact k4) (by rw [hpk]; exact k5) (by rw [hpk]; omega)
      rw [hpk] at this; exact this
     obtain ⟨A2, hA2⟩ : ∃ A2, A2 = A - N := ⟨_, rfl⟩
     rw [← hA2] at hst
     have hAe : (A : Int) - N = (A2 : Int) := by omega
     have hAb : A2 + N ≤ 512 := by omega
     have hAl : 4 + 4 * S.length ≤ A2 := by omega
     have hsl := sl_lo p A2 (A2 : Int) rfl (by omega)
     have HB := Lib.hid hb; have HST := Lib.hid hst; have HP3 := Lib.hid hp3; have HQ3 := Lib.hid hq3; have HU3 := Lib.hid hU3; have HBS := Lib.hid hbs; have HPK := Lib.hid hpk
     have heqs := eql_some
     have wA : IntKind.i64.wrap ((A : Int) - N) = A2 := by rw [hAe]; exact IntWalk.i64_in _ (by omega)
     have hN0 : N ≤ 230 := by have := k1.2.2.2.2.1; omega
     clear hb hst hp3 hq3 hU3 hbs hpk hmv hx k2 k3 k4 k5 k1 hN hA2
     go_wp2_with (first | (go_at_call 134; (with_reducible refine HB.out.mono ?_); rintro e w1 ⟨rfl, k, rfl⟩) | (refine wpList_copy_by rfl (.tmp 33) (.tmp 34) rfl A2 (512 - A2) (512 - A2) _ (packV v) rfl rfl (By.drewN HP3.out k) (HBS.out k) (by rw [HPK.out]; omega) (by rw [HPK.out]; omega) ?_; intro w4 b4 u4) | (go_at_call 225; refine (point_at b4 i A2 N (by omega) (by omega) (by omega)).mono ?_; rintro e w5 ⟨rfl, b5, u5⟩))
     go_roundw
     case rel => exact ⟨i + 1, A2, _, by omega, by go_num, rfl, HST.out, b5, ((By.drewN HQ3.out k).upd u4 (by omega)).upd u5 (by omega), ((HU3.out.drewN k).trans (u4.mono (fun b _ e => .inl e))).trans (u5.mono (fun b _ e => .inl e))⟩
     case measure => simp [intOf]; omega
  · obtain rfl : i = S.length := by omega
    have hdone := hmv.done HS.out (by omega)
    have hsum := hmv.sum
    have hcount := count_at hp3
    rw [hmv.cnt] at hcount
    have hset := set_page hp3 S.length A (by omega) (by omega)
    have HC3 := Lib.hid hcount; have HSET := Lib.hid hset
    clear hcount hset hmv hsum hp3 hq3
    go_wp2_with (first | (go_at_call 161; (with_reducible refine (flp HC3.out).mono ?_); rintro e w3 ⟨rfl, rfl⟩) | (go_at_call 226; (with_reducible refine HSET.out.mono ?_); rintro e w4 ⟨rfl, b4, u4⟩))
    go_end0
    refine ⟨rfl, ⟨_, b4, hdone.1, hdone.2⟩, ?_⟩
    refine (hU3.trans (u4.mono (fun b _ e => .inl e))).mono (fun b hb e => ?_)
    rcases e with e | e
    · exact e
    · have := HQ.out; omega
end
end Go.Proofs.YtnkjnclpakfgnaaGreatDoor
namespace Go.Proofs.YtnkjnclpakfgnaaGreatDoor
open Go.RowKit
set_option maxRecDepth 100000
section
variable {w w' : World} {p : Nat} {f : Nat → Nat} {S : List (Option Ver)}

theorem room_le {S : List (Option Ver)} {n : Nat} (h1 : 1 ≤ n) (h : (n : Int) ≤ roomS S) : 4 + 4 * max S.length (freeS S + 1) + used S + (30 + n) ≤ 512 := by
 have := freeS_le S
 unfold roomS at h
 split at h <;> omega

set_option maxHeartbeats 1000000 in
theorem pins_ok (h : Pg w p f) (hS : PageIs f S) {v : Ver} (hv : VerOk v) {d : Value} (hd : Bs w d v.data) (hr : v.data.length ≤ roomS S) :
    Calls Tryz.prog 376 #[.pointer (some ⟨p, 0, none⟩), verT v d] w fun e w' =>
      e = .returned (.tuple #[.int .i64 (freeS S : Int), .int .i64 0]) ∧ (∃ g, Pg w' p g ∧ PageIs g (insS S (freeS S) v)) ∧ Upd (fun q => q = p) w w' := by
 have hroom := room_le hv.2.2.2.2.2.2 hr
 have hfl := freeS_le S
 have hff := freeS_free S
 have HD := Lib.hid hd
 obtain ⟨_, _, b, o, cap, rfl, hb, _⟩ := hd
 have hrt := fun w => pright_at (a := some ⟨b, o, none⟩) (cap := cap) hv w
 have HV := Lib.hid hv
 obtain ⟨vv, hvv⟩ : ∃ vv, vv = v := ⟨_, rfl⟩
 rw [← hvv] at HV HD
 obtain ⟨row, xmin, xmax, pg, sl, data⟩ := v
 obtain ⟨wz, hwz⟩ : ∃ wz, wz = w.alloc (.cells #[.int .u64 row, .int .u64 xmin, .int .u64 xmax, .int .i64 pg, .int .i64 sl, .slice (some ⟨b, o, none⟩) data.length cap] 147) := ⟨_, rfl⟩
 obtain ⟨t, ht⟩ : ∃ t, t = w.heap.size := ⟨_, rfl⟩
 have hal : Below w.heap.size w wz := by subst hwz; exact (Below.refl _ _).alloc (Nat.le_refl _) _
 have hT : wz.heap[t]? = some (.cells #[.int .u64 row, .int .u64 xmin, .int .u64 xmax, .int .i64 pg, .int .i64 sl, .slice (some ⟨b, o, none⟩) data.length cap] 147 (0, 0)) := by subst hwz; subst ht; exact heap_new1 w _
 have hp : Pg wz p f := By.same h hal
 have hpl := By.lt h
 have hpack : ∀ w', Below wz.heap.size wz w' → Calls Tryz.prog 413 #[verT vv (.slice (some ⟨b, o, none⟩) vv.data.length cap)] w' _ := fun w' hb' => pack_at HV.out (Bs.same (Bs.same HD.out hal) hb')
 rw [hvv] at hpack
 unfold verT tup at hrt hpack ⊢
 simp only at hrt hr hpack hroom ⊢
 obtain ⟨R, hR⟩ : ∃ R, R = roomS S := ⟨_, rfl⟩
 rw [← hR] at hr
 obtain ⟨fr, hfr⟩ : ∃ fr, fr = freeS S := ⟨_, rfl⟩
 rw [← hfr] at hfl hff hroom ⊢
 have hrm : ∀ w', Below wz.heap.size wz w' → Calls Tryz.prog 229 #[.pointer (some ⟨p, 0, none⟩)] w' fun e w'' => e = .returned (.int .i64 R) ∧ ∃ n, w'' = w'.drewN n := fun w' hb => by
  rw [hR]; exact room_at (By.same hp hb) hS
 have hfm : ∀ w', Below wz.heap.size wz w' → Calls Tryz.prog 303 #[.pointer (some ⟨p, 0, none⟩)] w' fun e w'' => e = .returned (.int .i64 (fr : Int)) ∧ Below w'.heap.size w' w'' := fun w' hb => by
  rw [hfr]; exact (pfree_at (By.same hp hb) hS).mono fun e w'' ⟨h1, n, h2⟩ => ⟨h1, by rw [h2]; exact below_drewN⟩
 obtain ⟨n, hn⟩ : ∃ n, n = data.length := ⟨_, rfl⟩
 have hN : (packV vv).length = 30 + n := by rw [hvv, hn]; simp
 have hNd : 30 + vv.data.length = 30 + n := by rw [hvv, hn]
 rw [← hn] at hrt hwz hT hr hpack hroom ⊢
 have hdec : decide (R < (n : Int)) = false := by simpa using hr
 have HNN := Lib.hid hn
 have HT := Lib.hid ht; have HWZ := Lib.hid hwz; have HTB := Lib.hid hT; have HRT := Lib.hid hrt; have HRM := Lib.hid hrm; have HFM := Lib.hid hfm; have HPK := Lib.hid hpack; have HVV := Lib.hid hvv; have HN := Lib.hid hN; have HP := Lib.hid hp; have HSS := Lib.hid hS; have HFF := Lib.hid hff; have HND := Lib.hid hNd
 have c0 := cell_of_block hT (i := 0) rfl; have c1 := cell_of_block hT (i := 1) rfl; have c2 := cell_of_block hT (i := 2) rfl
 have c3 := cell_of_block hT (i := 3) rfl; have c4 := cell_of_block hT (i := 4) rfl; have c5 := cell_of_block hT (i := 5) rfl
 have hlen := hS.len
 have hpt : p < t := by omega
 clear hR hrm hrt hT ht hwz hn hr hv h hS hp hpack hvv hfm hff hfr hN hpl hNd
 go_enter Tryz.func376, Tryz.ntmps376
 go_wp2_with fail
 rw [← HWZ.out, ← HT.out]
 (with_reducible refine (HRT.out wz).mono ?_)
 rintro r w1 ⟨rfl, hk1⟩
 have z5 := keeper hk1 c5
 have hrq : ∀ k, Calls Tryz.prog 229 #[.pointer (some ⟨p, 0, none⟩)] (w1.drewN k) fun e w'' => e = .returned (.int .i64 R) ∧ ∃ n, w'' = (w1.drewN k).drewN n := fun k => HRM.out _ (hk1.trans ⟨rfl, rfl, rfl, Nat.le_refl _, fun _ _ => rfl⟩)
 have HRQ := Lib.hid hrq
 clear hrq
 go_wp2_with fail
 go_quiet ((go_at_call 229; with_reducible exact Calls.quiet_of (HRQ.out _)))
 have hk2 : Below wz.heap.size wz (w1.drewN nq) := hk1.trans ⟨rfl, rfl, rfl, Nat.le_refl _, fun _ _ => rfl⟩
 generalize w1.drewN nq = wy at *
 have hb0 : Below wz.heap.size wz wy.drew := hk2.trans ⟨rfl, rfl, rfl, Nat.le_refl _, fun _ _ => rfl⟩
 have k0 : wy.drew.cell? ⟨t, 0, none⟩ = some (.int .u64 row) := keeper hb0 c0; have k1 : wy.drew.cell? ⟨t, 1, none⟩ = some (.int .u64 xmin) := keeper hb0 c1; have k2 : wy.drew.cell? ⟨t, 2, none⟩ = some (.int .u64 xmax) := keeper hb0 c2; have k3 : wy.drew.cell? ⟨t, 3, none⟩ = some (.int .i64 pg) := keeper hb0 c3; have k4 : wy.drew.cell? ⟨t, 4, none⟩ = some (.int .i64 sl) := keeper hb0 c4; have k5 : wy.drew.cell? ⟨t, 5, none⟩ = some (.slice (some ⟨b, o, none⟩) n cap) := keeper hb0 c5
 clear c0 c1 c2 c3 c4 c5 hk2 hk1 z5
 go_wp2_with fail
 go_region_held3 (fun z => z.cell? ⟨t, 0, none⟩ = some (.int .u64 row) ∧ z.cell? ⟨t, 1, none⟩ = some (.int .u64 xmin) ∧ z.cell? ⟨t, 2, none⟩ = some (.int .u64 xmax) ∧ z.cell? ⟨t, 3, none⟩ = some (.int .i64 pg) ∧ z.cell? ⟨t, 4, none⟩ = some (.int .i64 sl) ∧ z.cell? ⟨t, 5, none⟩ = some (.slice (some ⟨b, o, none⟩) n cap))
  (first | (with_reducible exact ⟨keeper h12 k0, keeper h12 k1, keeper h12 k2, keeper h12 k3, keeper h12 k4, keeper h12 k5⟩) | (with_reducible exact ⟨keeper h11 k0, keeper h11 k1, keeper h11 k2, keeper h11 k3, keeper h11 k4, keeper h11 k5⟩) | (with_reducible exact ⟨k0, k1, k2, k3, k4, k5⟩))
  (first | (have _h := h11; go_at_call 413; (with_reducible refine (HPK.out _ hb1).mono ?_); rintro r wb ⟨x, rfl, x1, x2, x3⟩; have X1 := Lib.hid x1; have X2 := Lib.hid x2; obtain ⟨_, _, xb, xo, xc, rfl, _, _⟩ := x1; clear x2; have h12 := h11.trans (x3.mono h11.size)) | (go_at_call 303; (with_reducible refine (HFM.out _ hb0).mono ?_); rintro r wa ⟨rfl, h11⟩; have H11 := Lib.hid h11; have hb1 := hb0.trans (h11.mono hb0.size)))
 clear k0 k1 k2 k3 k4 k5
 rw [show 30 + data.length = 30 + n by rw [HNN.out]]
 have X3 := Lib.hid x3
 have hbp : Pg wb p f := By.same (By.same HP.out hb1) X3.out
 have hcb : Calls Tryz.prog 161 #[.pointer (some ⟨p, 0, none⟩)] wb fun e w' => e = .returned (.int .i64 (S.length : Int)) ∧ w' = wb := by
  have := count_at hbp; rw [HSS.out.cnt] at this; exact this
 have hsb := start_at hbp
 have h16 := hbp.lt16 2
 obtain ⟨st, hst⟩ : ∃ st, st = w16 f 2 := ⟨_, rfl⟩
 rw [← hst] at hsb h16
 have HCB := Lib.hid hcb; have HSB := Lib.hid hsb; have HST := Lib.hid hst; have HBP := Lib.hid hbp
 obtain ⟨C, hC⟩ : ∃ C, C = max S.length (fr + 1) := ⟨_, rfl⟩
 have hn2 : n ≤ 200 := by
  have := HV.out.2.2.2.2.1
  have e := HND.out
  omega
 have h4 : wz.heap.size ≤ wb.heap.size := Nat.le_trans hb1.size X3.out.size
 have hwb : Below wz.heap.size wz wb := hb1.trans (X3.out.mono hb1.size)
 have hxn : xb ≠ p := by
  have h5 : wa.heap.size ≤ xb := X2.out xb rfl
  have h6 := hb1.size
  have h7 : t < wz.heap.size := lt_of_block HTB.out
  omega
 have HX1 := Lib.hid (show Bs wb (.slice (some ⟨xb, xo, none⟩) (30 + n) xc) (packV vv) from by have := X1.out; rw [← HVV.out] at this; rw [← HN.out]; exact this)
 have hffS := HFF.out
 have hfin : ∀ (g : Nat → Nat) (A : Nat), PageIs g S → w16 g 2 = A + (30 + n) → 4 + 4 * C + (30 + n) ≤ A + (30 + n) → PageIs (ptF (spl (setF g C A) A (packV vv)) fr A (30 + n)) (insS S fr vv) := fun g A h1 h2 h3 => by
  have := h1.ins hfl hffS HV.out (by rw [HND.out, ← hC]; omega)
  rw [HND.out, ← hC, h2, Nat.add_sub_cancel] at this
  exact this
 have HFIN := Lib.hid hfin
 have hr4 : 4 + 4 * C + used S + (30 + n) ≤ 512 := by rw [hC]; exact hroom
 have HC := Lib.hid hC
 have hCl : S.length ≤ C := by omega
 have hCf : fr + 1 ≤ C := by omega
 have HB1 := Lib.hid hb1
 have hst2 := HST.out
 have hsthi : st ≤ 512 := by rw [hst2]; exact HSS.out.hi
 clear hffS hfin hroom hC hb1 hst2 H11 h11 h12 hcb hsb hst hbp x3 hb
 rcases Nat.lt_or_ge S.length (fr + 1) with hlt | hlt
 · have hmx : (S.length : Int) < (fr : Int) + 1 := by omega
   have hc : C = fr + 1 := by have := HC.out; omega
   by_cases hmv : st < 4 + 4 * C + (30 + n)
   · have hd : decide ((st : Int) - (30 + (n : Int)) < 4 + 4 * ((fr : Int) + 1)) = true := by simp; omega
     obtain ⟨A, hA⟩ : ∃ A, 512 - used S = A + (30 + n) := ⟨512 - used S - (30 + n), by omega⟩
     go_wp2_with (first | (go_at_call 161; (with_reducible refine (flp HCB.out).mono ?_); rintro e w3 ⟨rfl, rfl⟩) | (go_at_call 227; (with_reducible refine (flp HSB.out).mono ?_); rintro e w3 ⟨rfl, rfl⟩))
     refine (move_at HBP.out HSS.out (by omega)).mono ?_
     rintro e w2 ⟨rfl, ⟨g, b2, i2, s2⟩, u2⟩
     have hsb := start_at b2
     have hfn := HFIN.out g A i2 (by rw [s2]; exact hA) (by omega)
     have hse := set_page b2 C A (by omega) (by omega)
     rw [show C = fr + 1 from hc] at hse hfn
     rw [show ((fr + 1 : Nat) : Int) = (fr : Int) + 1 from rfl] at hse
     clear hc
     rw [s2, hA] at hsb
     have hAe : ((A + (30 + n) : Nat) : Int) - (30 + (n : Int)) = (A : Int) := by omega
     have hA5 : A + (30 + n) ≤ 512 := by omega
     have hA6 : 4 + 4 * C ≤ A := by omega
     obtain ⟨st2, hst2⟩ : ∃ st2, st2 = A + (30 + n) := ⟨_, rfl⟩
     rw [← hst2] at hsb hAe
     have hst3 : st2 ≤ 512 := by omega
     have HSB2 := Lib.hid hsb; have HFN := Lib.hid hfn; have HSE := Lib.hid hse
     have hsl := sl_lo p A (A : Int) rfl (by omega)
     clear hsb hfn hse s2 i2 b2 hA hst2 hd
     go_wp2_with (go_at_call 227; (with_reducible refine (flp HSB2.out).mono ?_); rintro e w3 ⟨rfl, rfl⟩)
     (with_reducible refine HSE.out.mono ?_)
     rintro e w3 ⟨rfl, b3, u3⟩
     have u0 : Upd (fun q => q = p) wb w3 := u2.trans u3
     have hx3 := Bs.upd HX1.out u0 (fun b' o' n' c' e => by cases e; exact hxn)
     have HX3 := Lib.hid hx3
     clear hx3
     go_wp2_with (refine wpList_copy_by rfl (.tmp 57) (.tmp 58) rfl A (512 - A) (512 - A) _ (packV vv) rfl rfl b3 HX3.out (by rw [HN.out]; omega) (by rw [HN.out]; omega) ?_; intro w4 b4 u4)
     refine (point_at b4 fr A (30 + n) (by omega) (by omega) (by omega)).mono ?_
     rintro e w5 ⟨rfl, b5, u5⟩
     go_wp2_with fail
     go_ret2
     exact ⟨rfl, ⟨_, b5, by rw [← HVV.out] at *; exact HFN.out⟩, ((Upd.same hal).trans_new (Upd.same hwb) (fun _ _ e => e)).trans ((u0.trans u4).trans u5)⟩
   · have hd : decide ((st : Int) - (30 + (n : Int)) < 4 + 4 * ((fr : Int) + 1)) = false := by simp; omega
     obtain ⟨A, hA⟩ : ∃ A, st = A + (30 + n) := ⟨st - (30 + n), by omega⟩
     have hAe : (st : Int) - (30 + (n : Int)) = (A : Int) := by omega
     have hfn := HFIN.out f A HSS.out (by rw [← HST.out]; exact hA) (by omega)
     have hse := set_page HBP.out C A (by omega) (by omega)
     rw [show C = fr + 1 from hc] at hse hfn
     rw [show ((fr + 1 : Nat) : Int) = (fr : Int) + 1 from rfl] at hse
     clear hc
     have HFN := Lib.hid hfn; have HSE := Lib.hid hse
     have hA5 : A + (30 + n) ≤ 512 := by omega
     have hA6 : 4 + 4 * C ≤ A := by omega
     have hsl := sl_lo p A (A : Int) rfl (by omega)
     rw [hAe] at hd
     clear hfn hse hA
     go_wp2_with (first | (go_at_call 161; (with_reducible refine (flp HCB.out).mono ?_); rintro e w3 ⟨rfl, rfl⟩) | (go_at_call 227; (with_reducible refine (flp HSB.out).mono ?_); rintro e w3 ⟨rfl, rfl⟩))
     (with_reducible refine HSE.out.mono ?_)
     rintro e w3 ⟨rfl, b3, u3⟩
     have u0 : Upd (fun q => q = p) wb w3 := u3
     have hx3 := Bs.upd HX1.out u0 (fun b' o' n' c' e => by cases e; exact hxn)
     have HX3 := Lib.hid hx3
     clear hx3
     go_wp2_with (refine wpList_copy_by rfl (.tmp 57) (.tmp 58) rfl A (512 - A) (512 - A) _ (packV vv) rfl rfl b3 HX3.out (by rw [HN.out]; omega) (by rw [HN.out]; omega) ?_; intro w4 b4 u4)
     refine (point_at b4 fr A (30 + n) (by omega) (by omega) (by omega)).mono ?_
     rintro e w5 ⟨rfl, b5, u5⟩
     go_wp2_with fail
     go_ret2
     exact ⟨rfl, ⟨_, b5, by rw [← HVV.out] at *; exact HFN.out⟩, ((Upd.same hal).trans_new (Upd.same hwb) (fun _ _ e => e)).trans ((u0.trans u4).trans u5)⟩
 · have hmx : ¬ (S.length : Int) < (fr : Int) + 1 := by omega
   have hc : C = S.length := by have := HC.out; omega
   by_cases hmv : st < 4 + 4 * C + (30 + n)
   · have hd : decide ((st : Int) - (30 + (n : Int)) < 4 + 4 * (S.length : Int)) = true := by simp; omega
     obtain ⟨A, hA⟩ : ∃ A, 512 - used S = A + (30 + n) := ⟨512 - used S - (30 + n), by omega⟩
     go_wp2_with (first | (go_at_call 161; (with_reducible refine (flp HCB.out).mono ?_); rintro e w3 ⟨rfl, rfl⟩) | (go_at_call 227; (with_reducible refine (flp HSB.out).mono ?_); rintro e w3 ⟨rfl, rfl⟩))
     refine (move_at HBP.out HSS.out (by omega)).mono ?_
     rintro e w2 ⟨rfl, ⟨g, b2, i2, s2⟩, u2⟩
     have hsb := start_at b2
     have hfn := HFIN.out g A i2 (by rw [s2]; exact hA) (by omega)
     have hse := set_page b2 C A (by omega) (by omega)
     rw [show C = S.length from hc] at hse hfn
     clear hc
     rw [s2, hA] at hsb
     have hAe : ((A + (30 + n) : Nat) : Int) - (30 + (n : Int)) = (A : Int) := by omega
     have hA5 : A + (30 + n) ≤ 512 := by omega
     have hA6 : 4 + 4 * C ≤ A := by omega
     obtain ⟨st2, hst2⟩ : ∃ st2, st2 = A + (30 + n) := ⟨_, rfl⟩
     rw [← hst2] at hsb hAe
     have hst3 : st2 ≤ 512 := by omega
     have HSB2 := Lib.hid hsb; have HFN := Lib.hid hfn; have HSE := Lib.hid hse
     have hsl := sl_lo p A (A : Int) rfl (by omega)
     clear hsb hfn hse s2 i2 b2 hA hst2 hd
     go_wp2_with (go_at_call 227; (with_reducible refine (flp HSB2.out).mono ?_); rintro e w3 ⟨rfl, rfl⟩)
     (with_reducible refine HSE.out.mono ?_)
     rintro e w3 ⟨rfl, b3, u3⟩
     have u0 : Upd (fun q => q = p) wb w3 := u2.trans u3
     have hx3 := Bs.upd HX1.out u0 (fun b' o' n' c' e => by cases e; exact hxn)
     have HX3 := Lib.hid hx3
     clear hx3
     go_wp2_with (refine wpList_copy_by rfl (.tmp 57) (.tmp 58) rfl A (512 - A) (512 - A) _ (packV vv) rfl rfl b3 HX3.out (by rw [HN.out]; omega) (by rw [HN.out]; omega) ?_; intro w4 b4 u4)
     refine (point_at b4 fr A (30 + n) (by omega) (by omega) (by omega)).mono ?_
     rintro e w5 ⟨rfl, b5, u5⟩
     go_wp2_with fail
     go_ret2
     exact ⟨rfl, ⟨_, b5, by rw [← HVV.out] at *; exact HFN.out⟩, ((Upd.same hal).trans_new (Upd.same hwb) (fun _ _ e => e)).trans ((u0.trans u4).trans u5)⟩
   · have hd : decide ((st : Int) - (30 + (n : Int)) < 4 + 4 * (S.length : Int)) = false := by simp; omega
     obtain ⟨A, hA⟩ : ∃ A, st = A + (30 + n) := ⟨st - (30 + n), by omega⟩
     have hAe : (st : Int) - (30 + (n : Int)) = (A : Int) := by omega
     have hfn := HFIN.out f A HSS.out (by rw [← HST.out]; exact hA) (by omega)
     have hse := set_page HBP.out C A (by omega) (by omega)
     rw [show C = S.length from hc] at hse hfn
     clear hc
     have HFN := Lib.hid hfn; have HSE := Lib.hid hse
     have hA5 : A + (30 + n) ≤ 512 := by omega
     have hA6 : 4 + 4 * C ≤ A := by omega
     have hsl := sl_lo p A (A : Int) rfl (by omega)
     rw [hAe] at hd
     clear hfn hse hA
     go_wp2_with (first | (go_at_call 161; (with_reducible refine (flp HCB.out).mono ?_); rintro e w3 ⟨rfl, rfl⟩) | (go_at_call 227; (with_reducible refine (flp HSB.out).mono ?_); rintro e w3 ⟨rfl, rfl⟩))
     (with_reducible refine HSE.out.mono ?_)
     rintro e w3 ⟨rfl, b3, u3⟩
     have u0 : Upd (fun q => q = p) wb w3 := u3
     have hx3 := Bs.upd HX1.out u0 (fun b' o' n' c' e => by cases e; exact hxn)
     have HX3 := Lib.hid hx3
     clear hx3
     go_wp2_with (refine wpList_copy_by rfl (.tmp 57) (.tmp 58) rfl A (512 - A) (512 - A) _ (packV vv) rfl rfl b3 HX3.out (by rw [HN.out]; omega) (by rw [HN.out]; omega) ?_; intro w4 b4 u4)
     refine (point_at b4 fr A (30 + n) (by omega) (by omega) (by omega)).mono ?_
     rintro e w5 ⟨rfl, b5, u5⟩
     go_wp2_with fail
     go_ret2
     exact ⟨rfl, ⟨_, b5, by rw [← HVV.out] at *; exact HFN.out⟩, ((Upd.same hal).trans_new (Upd.same hwb) (fun _ _ e => e)).trans ((u0.trans u4).trans u5)⟩
end
end Go.Proofs.YtnkjnclpakfgnaaGreatDoor
namespace Go.Proofs.YtnkjnclpakfgnaaGreatDoor

def updF (t : Nat → Int) (i : Nat) (x : Int) : Nat → Int := fun k => if k = i then x else t k
theorem updF_same (t : Nat → Int) (i : Nat) (x : Int) : updF t i x i = x := by simp [updF]
theorem updF_other {t : Nat → Int} {i k : Nat} {x : Int} (h : k ≠ i) : updF t i x k = t k := by simp [updF, h]

/-- Nodes are the greater of their two kids, but for those ahead of i. -/
def UpTo (t : Nat → Int) (i : Nat) : Prop := ∀ k, 1 ≤ k → k < 256 → (∀ m, 1 ≤ m → k ≠ i / 2 ^ m) → t k = max (t (2 * k)) (t (2 * k + 1))
structure RoomIs (t : Nat → Int) (rs : List Int) : Prop where
 len : rs.length ≤ 256
 leaf : ∀ j, j < 256 → t (256 + j) = rs.getD j (-1)
 node : ∀ k, 1 ≤ k → k < 256 → t k = max (t (2 * k)) (t (2 * k + 1))

theorem RoomIs.new : RoomIs (fun _ => -1) [] := ⟨by simp, fun j _ => by simp, fun k _ _ => by simp⟩

/-- A leaf written. -/
theorem RoomIs.put {t : Nat → Int} {rs : List Int} (h : RoomIs t rs) (i : Nat) (x : Int) : UpTo (updF t (256 + i) x) (256 + i) := by
 intro k h1 h2 hk
 have := hk 1 (Nat.le_refl _)
 rw [updF_other (by omega), updF_other (by omega), updF_other (by omega)]
 exact h.node k h1 h2
/-- One node more. -/
theorem UpTo.step {t : Nat → Int} {i : Nat} (h : UpTo t i) (hi : 1 < i) (hl : i < 512) : UpTo (updF t (i / 2) (max (t (2 * (i / 2))) (t (2 * (i / 2) + 1)))) (i / 2) := by
 intro k h1 h2 hk
 have := hk 1 (Nat.le_refl _)
 by_cases e : k = i / 2
 · subst e
   rw [updF_same, updF_other (by omega), updF_other (by omega)]
 · rw [updF_other e, updF_other (by omega), updF_other (by omega)]
   refine h k h1 h2 fun m hm => ?_
   obtain ⟨m, rfl⟩ : ∃ n, m = n + 1 := ⟨m - 1, by omega⟩
   rw [Nat.pow_succ, Nat.mul_comm, ← Nat.div_div_eq_div_mul]
   cases m with
   | zero => simpa using e
   | succ m => exact hk (m + 1) (by omega)
theorem UpTo.done {t : Nat → Int} (h : UpTo t 1) : ∀ k, 1 ≤ k → k < 256 → t k = max (t (2 * k)) (t (2 * k + 1)) := fun k h1 h2 => h k h1 h2 fun m hm => by
 have : 1 / 2 ^ m = 0 := Nat.div_eq_of_lt (by have : 2 ^ 1 ≤ 2 ^ m := Nat.pow_le_pow_right (by decide) hm; omega)
 omega
/-- What is told of a page, as it is kept. -/
def clip (r : Int) : Int := min (max r (-1)) 512
def setR (rs : List Int) (i : Nat) (r : Int) : List Int := if i = rs.length then rs ++ [clip r] else rs.set i (clip r)
theorem setR_length {rs : List Int} {i : Nat} {r : Int} : (setR rs i r).length = max rs.length (if i = rs.length then i + 1 else 0) := by
 unfold setR; split <;> simp <;> omega
theorem setR_get {rs : List Int} {i : Nat} (hi : i ≤ rs.length) (r : Int) (j : Nat) : (setR rs i r).getD j (-1) = if j = i then clip r else rs.getD j (-1) := by
 unfold setR
 simp only [List.getD_eq_getElem?_getD]
 split
 · rename_i h; subst h
   by_cases hj : j = rs.length
   · subst hj; simp
   · rw [if_neg hj]
     by_cases hj2 : j < rs.length
     · rw [List.getElem?_append_left hj2]
     · rw [List.getElem?_eq_none (by simp; omega), List.getElem?_eq_none (by omega)]
 · rw [List.getElem?_set]
   by_cases hj : i = j
   · subst hj; rw [if_pos rfl, if_pos rfl, if_pos (by omega)]; rfl
   · rw [if_neg hj, if_neg (fun e => hj e.symm)]
/-- All along: leaves are kept. -/
theorem RoomIs.made {t0 t : Nat → Int} {rs : List Int} (h : RoomIs t0 rs) {i : Nat} (hi : i ≤ rs.length) (hi2 : i < 256) (r : Int) (hu : UpTo t 1) (hl : ∀ j, 256 ≤ j → t j = updF t0 (256 + i) (clip r) j) : RoomIs t (setR rs i r) := by
 have := h.len
 refine ⟨by rw [setR_length]; split <;> omega, fun j hj => ?_, hu.done⟩
 rw [hl _ (by omega), setR_get hi]
 by_cases e : j = i
 · subst e; rw [updF_same, if_pos rfl]
 · rw [updF_other (by omega), if_neg e]; exact h.leaf j hj
/-- What is below a node that has too little has too little. -/
theorem RoomIs.under {t : Nat → Int} {rs : List Int} (h : RoomIs t rs) {need : Int} {m : Nat} (h1 : 2 ≤ m) (h2 : m < 512) (h3 : t (m / 2) < need) : t m < need := by
 have := h.node (m / 2) (by omega) (by omega)
 rcases Nat.mod_two_eq_zero_or_one m with e | e
 · rw [show 2 * (m / 2) = m by omega] at this; omega
 · rw [show 2 * (m / 2) + 1 = m by omega] at this; omega
theorem RoomIs.below {t : Nat → Int} {rs : List Int} (h : RoomIs t rs) {need : Int} (h1 : t 1 < need) : ∀ n k, 1 ≤ k → k < 512 → 512 ≤ k + n + 512 → k < 2 ^ (n + 1) → t k < need := by
 intro n
 induction n with
 | zero => intro k a b _ c; obtain rfl : k = 1 := by omega
           exact h1
 | succ n ih =>
  intro k a b c d
  by_cases e : k = 1
  · subst e; exact h1
  · have := ih (k / 2) (by omega) (by omega) (by omega) (by rw [Nat.pow_succ] at d; omega)
    have hn := h.node (k / 2) (by omega) (by omega)
    rcases (show k = 2 * (k / 2) ∨ k = 2 * (k / 2) + 1 by omega) with e1 | e1 <;> rw [e1] <;> omega
theorem RoomIs.none {t : Nat → Int} {rs : List Int} (h : RoomIs t rs) {need : Int} (h1 : t 1 < need) : ∀ r ∈ rs, r < need := by
 intro r hr
 obtain ⟨j, hj, rfl⟩ := List.getElem_of_mem hr
 have hlen := h.len
 have := h.below h1 8 (256 + j) (by omega) (by omega) (by omega) (by omega)
 rw [h.leaf j (by omega), List.getD_eq_getElem?_getD, List.getElem?_eq_getElem hj] at this
 exact this
theorem RoomIs.found {t : Nat → Int} {rs : List Int} (h : RoomIs t rs) {need : Int} (h0 : 0 ≤ need) {i : Nat} (hi : 256 ≤ i) (hi2 : i < 512) (ht : need ≤ t i) : i - 256 < rs.length ∧ need ≤ rs.getD (i - 256) (-1) := by
 have e := h.leaf (i - 256) (by omega)
 rw [show 256 + (i - 256) = i by omega] at e
 refine ⟨Nat.lt_of_not_le fun hc => ?_, by omega⟩
 rw [List.getD_eq_getElem?_getD, List.getElem?_eq_none hc] at e
 simp at e; omega
end Go.Proofs.YtnkjnclpakfgnaaGreatDoor
namespace Go.Proofs.YtnkjnclpakfgnaaGreatDoor
open Go.RowKit
set_option maxRecDepth 100000

def intA (n : Nat) (t : Nat → Int) : Array Value := ((List.range n).map fun i => Value.int .i64 (t i)).toArray
theorem intA_get (n : Nat) (t : Nat → Int) (i : Nat) (h : i < n) : (intA n t)[i]? = some (.int .i64 (t i)) := by simp [intA, h]
theorem intA_size (n : Nat) (t : Nat → Int) : (intA n t).size = n := by simp [intA]
theorem intA_set (n : Nat) (t : Nat → Int) (i : Nat) (x : Int) : (intA n t).setIfInBounds i (.int .i64 x) = intA n (updF t i x) := by
 apply Array.ext_getElem?
 intro k
 rw [Array.getElem?_setIfInBounds, intA_size]
 by_cases hk : k < n
 · rw [intA_get _ _ _ hk, intA_get _ _ _ hk]
   by_cases e : i = k
   · subst e; simp [hk, updF]
   · rw [if_neg e, updF_other (fun x => e x.symm)]
 · rw [Array.getElem?_eq_none (by rw [intA_size]; omega), Array.getElem?_eq_none (by rw [intA_size]; omega)]
   split <;> simp; omega

def Mp (w : World) (p : Nat) (t : Nat → Int) : Prop := w.heap[p]? = some (.cells (intA 513 t) 496 (0, 0))
def RoomAt (w : World) (p : Nat) (rs : List Int) : Prop := ∃ t, Mp w p t ∧ t 512 = rs.length ∧ RoomIs t rs
section
variable {w w' : World} {p : Nat} {t : Nat → Int} {rs : List Int}
theorem Mp.cell (h : Mp w p t) (i : Nat) (hi : i < 513) : w.cell? ⟨p, i, none⟩ = some (.int .i64 (t i)) := cell_of_block h (intA_get _ _ _ hi)
theorem Mp.free (h : Mp w p t) (i : Nat) : w.frozen? ⟨p, i, none⟩ = false := free_of_block h
theorem Mp.set (h : Mp w p t) (i : Nat) (x : Int) : Mp (w.setCell ⟨p, i, none⟩ (.int .i64 x)) p (updF t i x) := by unfold Mp; rw [block_setCell h, intA_set]
theorem RoomAt.upd {S : Nat → Prop} (h : RoomAt w p rs) (u : Upd S w w') (hs : ¬ S p) : RoomAt w' p rs := by
 obtain ⟨t, h1, h2, h3⟩ := h; exact ⟨t, u.heap h1 hs, h2, h3⟩
theorem RoomAt.lt (h : RoomAt w p rs) : p < w.heap.size := by obtain ⟨t, h1, _⟩ := h; exact lt_of_block h1
theorem RoomAt.len (h : RoomAt w p rs) : rs.length ≤ 256 := by obtain ⟨t, _, _, h3⟩ := h; exact h3.len

theorem rnew_at (w : World) : Calls Tryz.prog 218 #[] w fun e w' => e = .returned (.pointer (some ⟨w.heap.size, 0, none⟩)) ∧ RoomAt w' w.heap.size [] ∧ Below w.heap.size w w' := by
 have hz : Tryz.zeroCells496 = intA 513 (fun k => if k < 0 then -1 else 0) := by kernel_rfl
 have hP : Mp (w.alloc (.cells Tryz.zeroCells496 496)) w.heap.size (fun k => if k < 0 then -1 else 0) := by unfold Mp; rw [← hz]; exact heap_new1 w _
 have hal : Below w.heap.size w (w.alloc (.cells Tryz.zeroCells496 496)) := (Below.refl _ _).alloc (Nat.le_refl _) _
 have HP := Lib.hid hP
 clear hz hP
 go_enter Tryz.func218, Tryz.ntmps218
 go_wp2_with fail
 go_loopw [5] (fun iv wr => ∃ i : Nat, i ≤ 512 ∧ iv = .int .i64 (i : Int) ∧ Mp wr w.heap.size (fun k => if k < i then -1 else 0) ∧ Below w.heap.size w wr) (fun iv _ => 512 - (intOf iv).toNat)
 case atStart => exact ⟨0, by decide, rfl, HP.out, hal⟩
 case round =>
  obtain ⟨i, hi, rfl, hM, hB⟩ := hrel
  by_cases hlt : i < 512
  · have c := hM.cell i (by omega)
    have fz := hM.free i
    have hi2 : (i : Int) ≤ 511 := by omega
    go_wp2_with fail
    go_roundw
    case rel =>
     refine ⟨i + 1, by omega, by go_num, ?_, hB.setCell (Nat.le_refl _) _⟩
     have := hM.set i (-1)
     have e : updF (fun k => if k < i then -1 else 0) i (-1) = (fun k => if k < i + 1 then (-1 : Int) else 0) := by
      funext k; unfold updF
      by_cases h1 : k = i
      · rw [if_pos h1, if_pos (by omega)]
      · rw [if_neg h1]; dsimp only; by_cases h2 : k < i
        · rw [if_pos h2, if_pos (by omega)]
        · rw [if_neg h2, if_neg (by omega)]
     rw [e] at this; exact this
    case measure => simp [intOf]; omega
  · obtain rfl : i = 512 := by omega
    go_wp2_with fail
    go_ret
    refine ⟨rfl, ⟨_, hM, rfl, by simp, fun j hj => by simp; omega, fun k h1 h2 => ?_⟩, hB⟩
    rw [if_pos (by omega), if_pos (by omega), if_pos (by omega)]; rfl

theorem RoomIs.congr {t t' : Nat → Int} {rs : List Int} (h : RoomIs t rs) (e : ∀ k, k < 512 → t' k = t k) : RoomIs t' rs :=
 ⟨h.len, fun j hj => by rw [e _ (by omega)]; exact h.leaf j hj, fun k h1 h2 => by rw [e _ (by omega), e _ (by omega), e _ (by omega)]; exact h.node k h1 h2⟩

/-- The way up behind a leaf that is written. -/
structure Way (w0 w : World) (p : Nat) (t2 : Nat → Int) (i : Nat) : Prop where
 lo : 1 ≤ i
 hi : i < 512
 mp : ∃ t, Mp w p t ∧ UpTo t i ∧ ∀ j, 256 ≤ j → t j = t2 j
 up : Upd (fun q => q = p) w0 w

theorem Way.step {w0 w w1 : World} {T : Nat → Int} {k h : Nat} (hw : Way w0 w p T k) (hk : 1 < k) (hh : h = k / 2) {t : Nat → Int} (ht : Mp w p t) (hw1 : w1 = w.drew.setCell ⟨p, h, none⟩ (.int .i64 (max (t (2 * h)) (t (2 * h + 1))))) : Way w0 w1 p T h := by
 obtain ⟨h1, h2, ⟨t', m1, m2, m3⟩, m4⟩ := hw
 have e : ∀ k, k < 513 → t k = t' k := fun k hk => by
  have a := ht.cell k hk; have b := m1.cell k hk
  rw [a] at b; simpa using b
 subst hw1 hh
 have m1' : Mp w.drew p t' := m1
 refine ⟨by omega, by omega, ⟨_, m1'.set _ _, ?_, fun j hj => ?_⟩, m4.drew.setCell (a := ⟨p, k / 2, none⟩) _ (fun _ => rfl)⟩
 · rw [e _ (by omega), e _ (by omega)]; exact m2.step hk h2
 · rw [updF_other (by omega)]; exact m3 j hj

set_option maxHeartbeats 2000000 in
theorem rset_at (h : RoomAt w p rs) (i : Nat) (r : Int) (hi : i ≤ rs.length) (hi2 : i < 256) (hr : -1 ≤ r) (hr2 : r ≤ 512) :
    Calls Tryz.prog 228 #[.pointer (some ⟨p, 0, none⟩), .int .i64 (i : Int), .int .i64 r] w fun e w' => e = .returned (.int .i64 0) ∧ RoomAt w' p (setR rs i r) ∧ Upd (fun q => q = p) w w' := by
 obtain ⟨t, hM, hp, hR⟩ := h
 have hl := hR.len
 have c512 := hM.cell 512 (by omega)
 rw [hp] at c512
 have f512 := hM.free 512
 have d1 : decide ((i : Int) < 0) = false := by simp
 have d2 : decide (256 ≤ (i : Int)) = false := by simp; omega
 have d3 : decide ((rs.length : Int) < (i : Int)) = false := by simp; omega
 have n1 : ¬ r < -1 := by omega
 have n2 : ¬ 512 < r := by omega
 obtain ⟨N, hN⟩ : ∃ N : Nat, N = max rs.length (i + 1) := ⟨_, rfl⟩
 have hM1 := hM.set 512 (N : Int)
 have hR1 : RoomIs (updF t 512 (N : Int)) rs := hR.congr fun k hk => updF_other (by omega)
 have u1 : Upd (fun q => q = p) w (w.setCell ⟨p, 512, none⟩ (.int .i64 (N : Int))) := (Upd.refl (fun q => q = p) w).setCell (a := ⟨p, 512, none⟩) _ (fun _ => rfl)
 have hUp := hR1.put i r
 have hfin : ∀ w', Way w w' p (updF (updF t 512 (N : Int)) (256 + i) r) 1 → RoomAt w' p (setR rs i r) := fun w' hw => by
  obtain ⟨_, _, ⟨t', m1, m2, m3⟩, _⟩ := hw
  have hcl : clip r = r := by unfold clip; omega
  refine ⟨t', m1, ?_, hR1.made hi hi2 r m2 (fun j hj => by rw [hcl]; exact m3 j hj)⟩
  rw [m3 512 (by omega), updF_other (by omega), updF_same, setR_length, hN]
  split <;> omega
 have hw2 : Way w ((w.setCell ⟨p, 512, none⟩ (.int .i64 (N : Int))).setCell ⟨p, 256 + i, none⟩ (.int .i64 r)) p (updF (updF t 512 (N : Int)) (256 + i) r) (256 + i) :=
  ⟨by omega, by omega, ⟨_, hM1.set (256 + i) r, hUp, fun _ _ => rfl⟩, u1.setCell (a := ⟨p, 256 + i, none⟩) _ (fun _ => rfl)⟩
 have f2 := hM1.free (256 + i)
 have c2 := hM1.cell (256 + i) (by omega)
 obtain ⟨T, hT⟩ : ∃ T, T = updF (updF t 512 (N : Int)) (256 + i) r := ⟨_, rfl⟩
 rw [← hT] at hw2 hfin
 clear hT
 obtain ⟨w1, hw1⟩ : ∃ w1, w1 = w.setCell ⟨p, 512, none⟩ (.int .i64 (N : Int)) := ⟨_, rfl⟩
 rw [← hw1] at hw2 f2 c2
 have hcase : ((rs.length : Int) < (i : Int) + 1 ∧ (N : Int) = (i : Int) + 1) ∨ (¬ (rs.length : Int) < (i : Int) + 1 ∧ (N : Int) = rs.length) := by omega
 have HW2 := Lib.hid hw2; have HFIN := Lib.hid hfin; have HF2 := Lib.hid f2; have HC2 := Lib.hid c2
 clear f2 c2 hw2 hfin hN hUp hR hM hM1 hR1 u1
 rcases hcase with ⟨hmx, hNe⟩ | ⟨hmx, hNe⟩
 all_goals
  rw [hNe] at hw1
  have HW1 := Lib.hid hw1
  clear hw1 hNe
  go_enter Tryz.func228, Tryz.ntmps228
  go_upto_region 8 with fail
  rw [← HW1.out]
  have f2 := HF2.out
  have c2 := HC2.out
  go_wp2_with fail
  go_loopw [7] (fun iv wr => ∃ k : Nat, iv = .int .i64 (k : Int) ∧ Way w wr p T k) (fun iv _ => (intOf iv).toNat)
  case atStart => exact ⟨256 + i, by go_num, HW2.out⟩
  case round =>
   obtain ⟨k, rfl, hk⟩ := hrel
   have HK := Lib.hid hk
   obtain ⟨k1, k2, ⟨t', m1, _, _⟩, _⟩ := hk
   by_cases hk1 : k = 1
   · subst hk1
     go_wp2_with fail
     go_ret
     exact ⟨rfl, HFIN.out _ HK.out, HK.out.up⟩
   · obtain ⟨h, hh⟩ : ∃ h, h = k / 2 := ⟨_, rfl⟩
     have hdiv : (k : Int) / 2 = (h : Int) := by omega
     have w1e : IntKind.i64.wrap (2 * (h : Int)) = 2 * (h : Int) := IntWalk.i64_in _ (by omega)
     have w2e : IntKind.i64.wrap (2 * (h : Int) + 1) = 2 * (h : Int) + 1 := IntWalk.i64_in _ (by omega)
     have x1 := m1.cell (2 * h) (by omega)
     have x2 := m1.cell (2 * h + 1) (by omega)
     have x3 := m1.free h
     have x4 := m1.cell h (by omega)
     have l1 : (0 : Int) ≤ 2 * (h : Int) := by omega
     have l2 : 2 * (h : Int) < 512 := by omega
     have l3 : (0 : Int) ≤ 2 * (h : Int) + 1 := by omega
     have l4 : 2 * (h : Int) + 1 < 512 := by omega
     have l5 : (h : Int) < 512 := by omega
     have l6 : h < k := by omega
     have e1 : (2 * (h : Int)).toNat = 2 * h := by omega
     have e2 : (2 * (h : Int) + 1).toNat = 2 * h + 1 := by omega
     have hkk : 1 < k := by omega
     obtain ⟨a, ha⟩ : ∃ a, a = t' (2 * h) := ⟨_, rfl⟩
     obtain ⟨b, hb⟩ : ∃ b, b = t' (2 * h + 1) := ⟨_, rfl⟩
     rw [← ha] at x1
     rw [← hb] at x2
     have hst : ∀ m, m = max a b → Way w (wr.drew.setCell ⟨p, h, none⟩ (.int .i64 m)) p T h := fun m hm => HK.out.step hkk hh m1 (by rw [hm, ha, hb])
     have HST := Lib.hid hst; have HH := Lib.hid hh
     have HM1 := Lib.hid m1
     clear hst hh m1 ha hb hk1
     by_cases hab : a < b
     · go_wp2_with fail
       go_still_tail 21, (by kernel_rfl)
       change wpList _ _ _ _ _ wr.drew
       go_wp2_with fail
       go_roundw
       case rel => exact ⟨h, rfl, HST.out _ (by omega)⟩
       case measure => simp [intOf]; omega
     · go_wp2_with fail
       go_still_tail 21, (by kernel_rfl)
       change wpList _ _ _ _ _ wr.drew
       go_wp2_with fail
       go_roundw
       case rel => exact ⟨h, rfl, HST.out _ (by omega)⟩
       case measure => simp [intOf]; omega

def Found (rs : List Int) (need n : Int) (b : Bool) : Prop := (b = true → 0 ≤ n ∧ n < rs.length ∧ need ≤ rs.getD n.toNat (-1) ∧ ∀ j, j < n.toNat → rs.getD j (-1) < need) ∧ (b = false → ∀ r ∈ rs, r < need)
def FindPost (rs : List Int) (need : Int) (w : World) (e : Ending) (w' : World) : Prop := ∃ n b, e = .returned (.tuple #[.int .i64 n, .bool b]) ∧ Found rs need n b ∧ w' = w
theorem FindPost.mk {rs : List Int} {need : Int} {w : World} {e : Ending} (n : Int) (b : Bool) (h : e = .returned (.tuple #[.int .i64 n, .bool b])) (hf : Found rs need n b) : FindPost rs need w e w := ⟨n, b, h, hf, rfl⟩
set_option maxHeartbeats 1000000 in
theorem rfind_at (h : RoomAt w p rs) (need : Int) (h0 : 0 ≤ need) :
    Calls Tryz.prog 377 #[.pointer (some ⟨p, 0, none⟩), .int .i64 need] w (FindPost rs need w) := by
 obtain ⟨t, hM, hp, hR⟩ := h
 have c1 := hM.cell 1 (by omega)
 have n0 : ¬ need < 0 := by omega
 obtain ⟨a, ha⟩ : ∃ a, a = t 1 := ⟨_, rfl⟩
 rw [← ha] at c1
 have HA := Lib.hid ha; have HR := Lib.hid hR; have HM := Lib.hid hM
 clear ha hR hM hp
 by_cases hlt : a < need
 · have hd : decide (a < need) = true := by simpa using hlt
   have hno : ∀ r ∈ rs, r < need := HR.out.none (by rw [← HA.out]; exact hlt)
   have HNO := Lib.hid hno
   clear hno hlt
   go_enter Tryz.func377, Tryz.ntmps377
   go_wp2_with fail
   go_ret2
   exact FindPost.mk 0 false rfl ⟨(fun e => by cases e), fun _ => HNO.out⟩
 · have hd : decide (a < need) = false := by simpa using hlt
   clear hlt
   go_enter Tryz.func377, Tryz.ntmps377
   go_wp2_with fail
   go_loop [6] (fun iv => ∃ k : Nat, iv = .int .i64 (k : Int) ∧ 1 ≤ k ∧ k < 512 ∧ need ≤ t k ∧ ∃ d, 2 ^ d ≤ k ∧ k < 2 ^ (d + 1) ∧ ∀ m, 2 ^ d ≤ m → m < k → t m < need) (fun iv => 512 - (intOf iv).toNat)
   case atStart => exact ⟨1, rfl, by omega, by omega, by rw [← HA.out]; simpa using hd, 0, by decide, by decide, fun m h1 h2 => by omega⟩
   case round =>
    obtain ⟨k, rfl, k1, k2, k3, dd, d1, d2, d3⟩ := hrel
    have K3 := Lib.hid k3; clear k3
    have hstep : k < 256 → ∀ m, 2 ^ (dd + 1) ≤ m → m < 2 * k → t m < need := fun hk m h1 h2 => HR.out.under (by have : 1 ≤ 2 ^ dd := Nat.one_le_two_pow; rw [Nat.pow_succ] at h1; omega) (by omega) (d3 (m / 2) (by rw [Nat.pow_succ] at h1; omega) (by omega))
    have HST := Lib.hid hstep; have HD1 := Lib.hid d1; have HD2 := Lib.hid d2; have HD3 := Lib.hid d3
    clear hstep d1 d2 d3
    by_cases hk : k < 256
    · have x1 := HM.out.cell (2 * k) (by omega)
      have hnode := HR.out.node k k1 hk
      have k3 := K3.out
      obtain ⟨b, hb⟩ : ∃ b, b = t (2 * k) := ⟨_, rfl⟩
      rw [← hb] at x1 hnode
      have e1 : (k : Int) * 2 = ((2 * k : Nat) : Int) := by omega
      have HN := Lib.hid hnode; have HB := Lib.hid hb; have HE := Lib.hid e1
      clear hnode hb k3 e1
      have l1 : (0 : Int) ≤ (k : Int) * 2 := by omega
      have l2 : (k : Int) * 2 < 512 := by omega
      have e2 : ((k : Int) * 2).toNat = 2 * k := by omega
      by_cases hbn : b < need
      · have hd2 : decide (b < need) = true := by simpa using hbn
        go_wp2_with fail
        refine ⟨⟨2 * k + 1, by go_num, by omega, by omega, ?_, dd + 1, by have := HD1.out; rw [Nat.pow_succ]; omega, by have := HD2.out; rw [Nat.pow_succ]; omega, fun m h1 h2 => ?_⟩, by simp [intOf]; omega⟩
        · have a1 := HN.out; have a2 := HB.out; have a3 := K3.out
          omega
        · by_cases e : m = 2 * k
          · rw [e, ← HB.out]; exact hbn
          · exact HST.out hk m h1 (by omega)
      · have hd2 : decide (b < need) = false := by simpa using hbn
        go_wp2_with fail
        refine ⟨⟨2 * k, by go_num, by omega, by omega, ?_, dd + 1, by have := HD1.out; rw [Nat.pow_succ]; omega, by have := HD2.out; rw [Nat.pow_succ]; omega, fun m h1 h2 => HST.out hk m h1 h2⟩, by simp [intOf]; omega⟩
        have a2 := HB.out
        omega
    · go_wp2_with fail
      go_ret2
      obtain ⟨f1, f2⟩ := HR.out.found h0 (i := k) (by omega) k2 K3.out
      refine FindPost.mk ((k : Int) - 256) true rfl ⟨fun _ => ⟨by omega, by omega, ?_, fun j hj => ?_⟩, fun e => by cases e⟩
      · rw [show ((k : Int) - 256).toNat = k - 256 by omega]; exact f2
      · have e8 : dd = 8 := by
          have a1 := HD1.out; have a2 := HD2.out
          rcases Nat.lt_trichotomy dd 8 with h | h | h
          · have : 2 ^ (dd + 1) ≤ 2 ^ 8 := Nat.pow_le_pow_right (by decide) h
            omega
          · exact h
          · have : 2 ^ 9 ≤ 2 ^ dd := Nat.pow_le_pow_right (by decide) h
            omega
        rw [← HR.out.leaf j (by omega)]
        exact HD3.out (256 + j) (by rw [e8]; omega) (by omega)
end
end Go.Proofs.YtnkjnclpakfgnaaGreatDoor
