/- The executor, 21: parse.Parse, which defers. · The executor, 22: the library's functions on strings, by their contracts. · Package calc: Add. · The store's state as the executor's plugs see it, and what they answer. · The executor's program is plain. No conditions. -/
import Derived.Test.YtnkjnclpakfgnaaGreatDoorMa7
import Derived.Test.YtnkjnclpakfgnaaGreatDoorProg
import Derived.Recover
import Derived.Test.YtnkjnclpakfgnaaGreatDoorShelf
import Derived.Lib.MapLaws
import Derived.Handy
import Derived.Test.YtnkjnclpakfgnaaGreatDoorMa4
import Derived.KernelRfl
namespace Go.Proofs.YtnkjnclpakfgnaaGreatDoor
namespace X

/-- What parse.Parse defers does nothing where nobody panics. -/
theorem d107 (x y : Value) (w : World) : CallsD Tryz.prog 107 #[x, y] .returning w fun e u' w' => (∃ v, e = .returned v) ∧ u' = .returning ∧ w' = w := by
  refine callsD_of_wpS Tryz.func107 rfl fun c₀ cs hc => ?_
  have hr : recoverD (c₀ :: cs) = none := by simp only [recoverD, hc]
  have hcs : c₀ :: cs = { c₀ with mode := .returning } :: cs := by cases c₀; simp only at hc; subst hc; rfl
  simp only [Tryz.ntmps107]
  refine wpS_seq (wpS_region ?_)
  change wpOpsS _ _ _ [0, 1] _ _ _
  simp [wpOpsS, Region.wanted, execOp, resolve, invoke, builtin, hr, Oper.upon, Act.put, Act.eval, Exit.thenS]
  refine wpS_of_wp ?_
  go_wp2
  exact ⟨rfl, .returning, hcs, _, results_none rfl _ _ _, ⟨_, rfl⟩, rfl, rfl⟩

section
variable {M : Type}
/-- parse.Parse, whose fourth step defers. -/
noncomputable def run78 (cf : CF M) (K : Nat) (dr : DR M) (fn : Func) (args : List V) (s : S M) : Option (V × S M) :=
  ob fn.body fun c => match c with
    | .seq x1 (.seq x2 (.seq x3 (.seq (.region _ ops false) rest))) => ck (Nat.ble (llen args) fn.ntmps) (ob (mv K (argL args 0) []) fun L =>
      ob (execC Tryz.prog cf K fn.ntmps dr x1 (argL args 0) L s) fun r1 => match r1 with
      | ⟨.n, R1, L1, s1⟩ => ob (execC Tryz.prog cf K fn.ntmps dr x2 R1 L1 s1) fun r2 => match r2 with
        | ⟨.n, R2, L2, s2⟩ => ob (execC Tryz.prog cf K fn.ntmps dr x3 R2 L2 s2) fun r3 => match r3 with
          | ⟨.n, _, L3, s3⟩ => match ops.toList with
            | [⟨some 14, .makeFunc (.func 107) first caps, _, _, _, none⟩, ⟨none, .defer ⟨.value (.tmp 14), dargs, _⟩, _, _, _, none⟩] =>
              ck (Nat.beq first.size 0) (ck (Nat.beq dargs.size 0) (ck (Nat.blt 14 fn.ntmps) (ck (tb K 14).not (ob (evs (evF [] L3) caps.toList) fun l => ck (Nat.beq (llen l) 2)
                (ob (execC Tryz.prog cf K fn.ntmps dr rest [] L3 s3) fun r4 => match r4.e with
                  | .x _ => none
                  | _ => ob (resF Tryz.prog r4.R r4.L r4.s fn.results.toList) fun v => some (v, r4.s))))))
            | _ => none
          | _ => none
        | _ => none
      | _ => none)
    | _ => none
end

section
variable {I : Inv} {M : Keep} {E : Env} {w : World} {s : S I.M} {cf : CF I.M} {K n : Nat} {dr : DR I.M}

theorem arg_ok {K : Nat} {fn : Func} {args : List V} {A : Array Value} {L : Ls} (h1 : args.length ≤ fn.ntmps) (hA : VRs E args A.toList) (hL : mv K (argL args 0) [] = some L) :
    LR E fn.ntmps (argL args 0 ++ L) { tmps := A ++ Array.replicate (fn.ntmps - A.size) undef, defers := [] } ∧ LR E fn.ntmps L { tmps := A ++ Array.replicate (fn.ntmps - A.size) undef, defers := [] } ∧ KeysIn K L := by
  have hlen : args.length = A.size := by simpa using hA.1
  have h0 : LR E fn.ntmps (argL args 0) { tmps := A ++ Array.replicate (fn.ntmps - A.size) undef, defers := [] } := by
    refine ⟨by simp; omega, fun {t u} ht => ?_⟩
    obtain ⟨_, h2⟩ := argL_ok ht
    rw [Nat.sub_zero] at h2
    have hlt := (List.getElem?_eq_some_iff.1 h2).1
    obtain ⟨W, h3, h4⟩ := hA.get h2
    refine ⟨by omega, ?_⟩
    have h5 : (A ++ Array.replicate (fn.ntmps - A.size) undef).getD t undef = W := by
      have h6 : A[t]? = some W := by simpa using h3
      rw [Array.getD_eq_getD_getElem?, Array.getElem?_append_left (by omega), h6]; rfl
    rw [h5]; exact h4
  obtain ⟨m1, m2⟩ := mv_ok hL (L := []) (K := K) (fun t v ht => by cases ht)
  refine ⟨h0.sub fun t u ht => ?_, h0.sub fun t u ht => by simpa using m2 t u ht, m1⟩
  rcases lk_or t (argL args 0) with ⟨q, hq⟩ | hq
  · rw [hq] at ht
    have := hq []
    rw [List.append_nil] at this; rw [this]; exact ht
  · rw [hq] at ht; simpa using m2 t u ht

theorem two_of {A : Array Value} (h : A.size = 2) : ∃ x y, A = #[x, y] := by
  obtain ⟨l⟩ := A
  match l, h with
  | [x, y], _ => exact ⟨x, y, rfl⟩

theorem run78_ok (hP : Plain Tryz.prog) (hcf : CallOk I Tryz.prog cf) {fn : Func} (hdr : DrOk I Tryz.prog fn.ntmps dr) (hf : Tryz.prog.funcs[78]? = some fn) {args : List V} {s' : S I.M} {v : V}
    (h : run78 cf K dr fn args s = some (v, s')) {A : Array Value} (hS : Sim I M E s.H s.nx s.m w) (hA : VRs E args A.toList) :
    Calls Tryz.prog 78 A w fun e w' => ∃ W E', e = .returned W ∧ E.le E' ∧ VR E' v W ∧ Sim I M E' s'.H s'.nx s'.m w' := by
  obtain ⟨c, hc, h⟩ := ob_eq h
  split at h <;> first | (cases h; done) | skip
  rename_i x1 x2 x3 id ops rest
  obtain ⟨h1, h⟩ := ck_eq h
  obtain ⟨L, hL, h⟩ := ob_eq h
  obtain ⟨r1, hr1, h⟩ := ob_eq h
  split at h <;> first | (cases h; done) | skip
  rename_i R1 L1 s1
  obtain ⟨r2, hr2, h⟩ := ob_eq h
  split at h <;> first | (cases h; done) | skip
  rename_i R2 L2 s2
  obtain ⟨r3, hr3, h⟩ := ob_eq h
  split at h <;> first | (cases h; done) | skip
  rename_i R3 L3 s3
  split at h <;> first | (cases h; done) | skip
  rename_i first caps ty1 pos1 af1 dargs aty ty2 pos2 af2 hops
  obtain ⟨g1, h⟩ := ck_eq h
  obtain ⟨g2, h⟩ := ck_eq h
  obtain ⟨g3, h⟩ := ck_eq h
  obtain ⟨g4, h⟩ := ck_eq h
  obtain ⟨l, hl, h⟩ := ob_eq h
  obtain ⟨g5, h⟩ := ck_eq h
  obtain ⟨r4, hr4, h⟩ := ob_eq h
  have h1 := Nat.le_of_ble_eq_true h1
  rw [llen_eq] at h1
  have g1 : first = #[] := Array.eq_empty_of_size_eq_zero (Nat.eq_of_beq_eq_true g1)
  have g2 : dargs = #[] := Array.eq_empty_of_size_eq_zero (Nat.eq_of_beq_eq_true g2)
  have g3 := Nat.le_of_ble_eq_true g3
  have g5 := Nat.eq_of_beq_eq_true g5
  rw [llen_eq] at g5
  obtain ⟨hR0, hL0, hK0⟩ := arg_ok h1 hA hL
  refine calls_of_wp_defers hf hc ?_
  refine wp_seq (execC_ok (M := M) hP hcf hdr hr1 hR0 hL0 hK0 hS (fun E1 a1 w1 p1 p2 p3 p4 p5 p6 => ?_))
  refine wp_seq (execC_ok (M := M) hP hcf hdr hr2 p2 p3 p4 p6 (fun E2 a2 w2 q1 q2 q3 q4 q5 q6 => ?_))
  refine wp_seq (execC_ok (M := M) hP hcf hdr hr3 q2 q3 q4 q6 (fun E3 a3 w3 t1 t2 t3 t4 t5 t6 => ?_))
  dsimp only at t2 t3 t4 t6 p5 q5 t5
  refine wp_seq (wp_region_list ?_)
  rw [hops]
  have hcaps : VRs E3 l (caps.map a3.eval).toList := by
    have := evs_ok (ρ := a3.eval) (fun hx => evF_ok t6 (R := []) (L := L3) t3 hx) hl
    simpa using this
  unfold wpList
  rw [if_pos (by rfl)]
  left
  unfold Oper.wp
  rw [show (execOp a3.eval ⟨some 14, .makeFunc (.func 107) first caps, ty1, pos1, af1, none⟩).run Tryz.prog w3 = .ok (.value (.func (.func 107) #[] (caps.map a3.eval))) w3 by simp [execOp, Instr.makeFunc, g1]]
  have h14 : 14 < a3.tmps.size := by rw [t3.size]; exact g3
  have hg : (a3.put (some 14) (.func (.func 107) #[] (caps.map a3.eval))).eval (.tmp 14) = .func (.func 107) #[] (caps.map a3.eval) := by
    simp [Act.eval, Act.put, Array.getD, h14]
  show wpList Tryz.prog ops _ _ (a3.put (some 14) (.func (.func 107) #[] (caps.map a3.eval))) w3
  unfold wpList
  rw [if_pos (by rfl)]
  left
  unfold Oper.wp
  rw [show (execOp (a3.put (some 14) (.func (.func 107) #[] (caps.map a3.eval))).eval ⟨none, .defer ⟨.value (.tmp 14), dargs, aty⟩, ty2, pos2, af2, none⟩).run Tryz.prog w3 =
      .ok (.defer { target := .fn (.func 107) (caps.map a3.eval), args := #[] }) w3 by simp [execOp, resolve, hg, Deferred.ofValue, g2]]
  have hL4 : LR E3 fn.ntmps L3 ({ (a3.put (some 14) (.func (.func 107) #[] (caps.map a3.eval))) with defers := { target := .fn (.func 107) (caps.map a3.eval), args := #[] } :: (a3.put (some 14) (.func (.func 107) #[] (caps.map a3.eval))).defers }) := by
    refine ⟨by simpa [Act.put] using t3.size, fun {t u} ht => ?_⟩
    obtain ⟨y1, y2⟩ := t3.val ht
    refine ⟨y1, ?_⟩
    have hne : 14 ≠ t := fun e => by
      have := t4 t u ht
      rw [← e] at this; rw [this] at g4; cases g4
    have hts : t < a3.tmps.size := by rw [t3.size]; exact y1
    have : (a3.put (some 14) (.func (.func 107) #[] (caps.map a3.eval))).tmps.getD t undef = a3.tmps.getD t undef := by
      simp [Act.put, Array.getD, hts, Array.getElem_setIfInBounds_ne, hne]
    rw [this]; exact y2
  refine execC_ok (M := M) hP hcf hdr hr4 (R := []) hL4 hL4 t4 t6 (fun E5 a5 w5 u1 u2 u3 u4 u5 u6 => ?_)
  have hdef : a5.defers = [{ target := .fn (.func 107) (caps.map a3.eval), args := #[] }] := by
    rw [u5]; simp [put_defers, t5, q5, p5]
  obtain ⟨x, y, hxy⟩ : ∃ x y, caps.map a3.eval = #[x, y] := by
    have h2 : (caps.map a3.eval).size = 2 := by have := hcaps.1; rw [g5] at this; simpa using this.symm
    exact two_of h2
  obtain ⟨e4, R4, L4, s4⟩ := r4
  have fin : (ob (resF Tryz.prog R4 L4 s4 fn.results.toList) fun v => some (v, s4)) = some (v, s') → Leaves Tryz.prog fn a5.tmps (fun e w' => ∃ W E', e = .returned W ∧ E.le E' ∧ VR E' v W ∧ Sim I M E' s'.H s'.nx s'.m w') a5.defers .returning w5 := fun h => by
    obtain ⟨u, hu, h⟩ := ob_eq h
    cases h
    obtain ⟨W, h7, h8⟩ := resF_ok hu u2 u6
    rw [hdef, hxy]
    refine leaves_cons (f := 107) (args := #[x, y]) (by simp) (by simp [invoke, callFunc, Tryz.func107]; rfl) ?_
    refine (d107 x y w5).mono ?_
    rintro e u' w' ⟨⟨z, rfl⟩, rfl, rfl⟩
    exact ⟨W, h7, W, E5, rfl, ((p1.trans q1).trans t1).trans u1, h8, u6⟩
  cases e4 with
  | n => exact fin h
  | r => exact fin h
  | x id => cases h
end
end X
end Go.Proofs.YtnkjnclpakfgnaaGreatDoor
namespace Go.Proofs.YtnkjnclpakfgnaaGreatDoor
namespace X
open Go.RowKit

theorem Sim.below {I : Inv} {K : Keep} {E : Env} {H : T O} {nx : Nat} {m : I.M} {w w' : World} (h : Sim I K E H nx m w) (hb : Below w.heap.size w w') : Sim I K E H nx m w' := by
  have hk : ∀ {b : Nat} {x : Obj}, w.heap[b]? = some x → w'.heap[b]? = some x := fun {b x} hx => (hb.block b (Array.getElem?_eq_some_iff.1 hx).1).trans hx
  exact { h with os := hb.os.trans h.os, tape := hb.tape.trans h.tape, output := hb.output.trans h.output, size := Nat.le_trans h.size hb.size
                 heap := fun l => let ⟨b, c, o, q1, q2, q3⟩ := h.heap l; ⟨b, c, o, q1, hk q2, q3⟩, frame := fun g => hk (h.frame g)
                 inv := let ⟨F, q1, q2, q3⟩ := h.inv; ⟨F, I.loc q1 (Env.le.refl E).sub rfl hb.size (fun b hbF => hb.block b (I.lt q1 hbF)), q2, q3⟩ }

/-- lex.small -/
def smallI (r : Int) : Int := if 65 ≤ r ∧ r ≤ 90 then r + 32 else r
theorem small_at (r : Nat) (h : r ≤ 1114111) (w : World) : Calls Tryz.prog 244 #[.int .i32 (r : Int)] w fun e w' => e = .returned (.int .i32 (smallI r)) ∧ ∃ q, w' = w.drewN q := by
  go_enter Tryz.func244, Tryz.ntmps244
  go_each [(65 : Int) ≤ (r : Int), (r : Int) ≤ 90] => (go_wp2; go_ret; first
    | (have h : smallI (r : Int) = (r : Int) + 97 - 65 := (by unfold smallI; rw [if_pos ⟨by omega, by omega⟩]; omega); rw [h]; exact ⟨rfl, 0, rfl⟩)
    | (have h : smallI (r : Int) = (r : Int) := (by unfold smallI; rw [if_neg (by omega)]); rw [h]; exact ⟨rfl, 0, rfl⟩))

noncomputable def lowN (x : Nat) : Nat := (Nat.ble 65 x).rec x ((Nat.ble x 90).rec x (x + 32))
noncomputable def upN (x : Nat) : Nat := (Nat.ble 97 x).rec x ((Nat.ble x 122).rec x (x - 32))
/-- An ASCII text, changed letter by letter. -/
noncomputable def mapA (f : Nat → Nat) (l : List Nat) : Option (List Nat) := l.rec (some []) (fun x _ ih => ck (Nat.blt x 128) (ob ih fun r => fN (f x) fun y => some (y :: r)))
theorem mapA_ok {f : Nat → Nat} : ∀ {l r : List Nat}, mapA f l = some r → r = l.map f ∧ ∀ x ∈ l, x < 128
  | [], r, h => by cases h; exact ⟨rfl, fun x hx => by cases hx⟩
  | x :: l, r, h => by
    obtain ⟨h1, h⟩ := ck_eq (b := Nat.blt x 128) h
    obtain ⟨s, hs, h⟩ := ob_eq (o := mapA f l) h
    rw [fN_eq] at h; cases h
    obtain ⟨rfl, h2⟩ := mapA_ok hs
    refine ⟨rfl, fun y hy => ?_⟩
    rcases List.mem_cons.1 hy with rfl | hy
    · exact Nat.le_of_ble_eq_true h1
    · exact h2 y hy
theorem lowN_eq (x : Nat) : lowN x = if 65 ≤ x ∧ x ≤ 90 then x + 32 else x := by
  unfold lowN
  by_cases h1 : 65 ≤ x
  · rw [Nat.ble_eq_true_of_le h1]
    by_cases h2 : x ≤ 90
    · rw [Nat.ble_eq_true_of_le h2, if_pos ⟨h1, h2⟩]
    · rw [show Nat.ble x 90 = false from Bool.eq_false_iff.2 fun h => h2 (Nat.le_of_ble_eq_true h), if_neg (fun h => h2 h.2)]
  · rw [show Nat.ble 65 x = false from Bool.eq_false_iff.2 fun h => h1 (Nat.le_of_ble_eq_true h), if_neg (fun h => h1 h.1)]
theorem upN_eq (x : Nat) : upN x = if 97 ≤ x ∧ x ≤ 122 then x - 32 else x := by
  unfold upN
  by_cases h1 : 97 ≤ x
  · rw [Nat.ble_eq_true_of_le h1]
    by_cases h2 : x ≤ 122
    · rw [Nat.ble_eq_true_of_le h2, if_pos ⟨h1, h2⟩]
    · rw [show Nat.ble x 122 = false from Bool.eq_false_iff.2 fun h => h2 (Nat.le_of_ble_eq_true h), if_neg (fun h => h2 h.2)]
  · rw [show Nat.ble 97 x = false from Bool.eq_false_iff.2 fun h => h1 (Nat.le_of_ble_eq_true h), if_neg (fun h => h1 h.1)]

theorem lowerB_nat (b : UInt8) : (Lib.lowerB b).toNat = lowN b.toNat := by
  rw [lowN_eq]; unfold Lib.lowerB Lib.isUpperB
  simp only [Bool.and_eq_true, decide_eq_true_eq, UInt8.le_iff_toNat_le]
  by_cases h : 65 ≤ b.toNat ∧ b.toNat ≤ 90
  · rw [if_pos h, if_pos (show UInt8.toNat 65 ≤ b.toNat ∧ b.toNat ≤ UInt8.toNat 90 from h), UInt8.toNat_add]
    show (b.toNat + 32) % 256 = _
    omega
  · rw [if_neg h, if_neg (show ¬ (UInt8.toNat 65 ≤ b.toNat ∧ b.toNat ≤ UInt8.toNat 90) from h)]
theorem upperB_nat (b : UInt8) : (Lib.upperB b).toNat = upN b.toNat := by
  rw [upN_eq]; unfold Lib.upperB Lib.isLowerB
  simp only [Bool.and_eq_true, decide_eq_true_eq, UInt8.le_iff_toNat_le]
  by_cases h : 97 ≤ b.toNat ∧ b.toNat ≤ 122
  · rw [if_pos h, if_pos (show UInt8.toNat 97 ≤ b.toNat ∧ b.toNat ≤ UInt8.toNat 122 from h), UInt8.toNat_sub_of_le _ _ (UInt8.le_iff_toNat_le.2 (by show 32 ≤ b.toNat; omega))]; rfl
  · rw [if_neg h, if_neg (show ¬ (UInt8.toNat 97 ≤ b.toNat ∧ b.toNat ≤ UInt8.toNat 122) from h)]
theorem mapD_small : ∀ (l : List UInt8), (∀ x ∈ l.map UInt8.toNat, x < 128) → (Lib.mapD smallI l).map UInt8.toNat = (l.map UInt8.toNat).map lowN
  | [], _ => rfl
  | b :: l, h => by
    have hb : b.toNat < 128 := h b.toNat (by simp)
    have hd : Lib.decodeL (b :: l) = (b.toNat, 1) := by
      have h2 : ∀ x : Nat × Nat, (if b.toNat < 0x80 then (b.toNat, 1) else x) = (b.toNat, 1) := fun x => if_pos hb
      exact h2 _
    rw [Lib.mapD_step smallI (b :: l) (by simp), hd]
    have hs : smallI (b.toNat : Int) = ((lowN b.toNat : Nat) : Int) := by
      rw [lowN_eq]; unfold smallI
      by_cases h1 : 65 ≤ b.toNat ∧ b.toNat ≤ 90
      · rw [if_pos h1, if_pos (by omega)]; omega
      · rw [if_neg h1, if_neg (by omega)]
    have hlt : lowN b.toNat < 128 := by rw [lowN_eq]; split <;> omega
    dsimp only
    rw [hs, if_pos (by omega)]
    unfold Lib.encodeRune
    rw [Lib.encodeRuneZ_one (by omega) (by omega)]
    simp only [List.drop_succ_cons, List.drop_zero, List.map_cons, List.map_nil, List.cons_append, List.nil_append, Int.toNat_natCast]
    rw [mapD_small l (fun x hx => h x (by simp only [List.map_cons]; exact .tail _ hx))]
    congr 1
    simp [Nat.toUInt8]; omega

/-- Where a byte first stands. -/
noncomputable def idxN (c : Nat) (l : List Nat) : Nat → V := l.rec (fun _ => .int .i64 (.negSucc 0)) (fun x _ ih k => (Nat.beq x c).rec (fN (k + 1) ih) (.int .i64 (.ofNat k)))
theorem idxN_ok {c : Nat} (hc : c < 256) : ∀ (l : List UInt8) (k : Nat), idxN c (l.map UInt8.toNat) k = .int .i64 (if Lib.indexByte l c.toUInt8 = -1 then -1 else k + Lib.indexByte l c.toUInt8)
  | [], k => rfl
  | b :: l, k => by
    show Bool.rec (motive := fun _ => V) (fN (k + 1) (idxN c (l.map UInt8.toNat))) (V.int .i64 (.ofNat k)) (Nat.beq b.toNat c) = _
    have hcc : (c.toUInt8).toNat = c := by simp [Nat.toUInt8]; omega
    unfold Lib.indexByte
    have hge := Lib.indexByte_ge l c.toUInt8
    cases hb : Nat.beq b.toNat c with
    | true =>
      have : b = c.toUInt8 := UInt8.toNat_inj.1 (by rw [hcc]; exact Nat.eq_of_beq_eq_true hb)
      simp [this]
    | false =>
      have hne : (b == c.toUInt8) = false := by
        rw [beq_eq_false_iff_ne]; rintro rfl; rw [hcc, Nat.beq_refl] at hb; cases hb
      simp only [hne, Bool.false_eq_true, ↓reduceIte, fN_eq]
      rw [idxN_ok hc l (k + 1)]
      congr 1
      generalize Lib.indexByte l c.toUInt8 = z at *
      by_cases h1 : z = -1
      · simp [h1]
      · have h2 : (if (z == -1) = true then (-1 : Int) else z + 1) = z + 1 := if_neg (by simpa using h1)
        rw [if_neg h1, h2, if_neg (by omega)]
        push_cast; omega

noncomputable def lib1 (f : Nat → Nat) (args : List V) : Option V := match args with | [.str l] => ck (Nat.blt (llen l) 65536) (ob (mapA f l) fun r => some (.str r)) | _ => none
noncomputable def lib243 (args : List V) : Option V := match args with | [.fn 244 [] [], .str l] => ck (Nat.blt (llen l) 65536) (ob (mapA lowN l) fun r => some (.str r)) | _ => none
noncomputable def lib162 (args : List V) : Option V := match args with | [.str l, .int .u8 (.ofNat c)] => ck (Nat.blt c 256) (some (idxN c l 0)) | _ => none
/-- The library's functions that are answered by their contracts. -/
noncomputable def libP (f : Nat) (args : List V) : Option V :=
  (Nat.beq f 162).rec ((Nat.beq f 243).rec ((Nat.beq f 358).rec ((Nat.beq f 336).rec none (lib1 lowN args)) (lib1 upN args)) (lib243 args)) (lib162 args)

section
variable {I : Inv} {K : Keep} {E : Env} {w : World} {s : S I.M}
theorem str_inv {l : List Nat} {W : Value} (h : VR E (.str l) W) : ∃ S, W = .string S ∧ bytesN S = l := by cases h with | str h => exact ⟨_, rfl, h⟩
theorem ascii {S : ByteArray} (h : ∀ x ∈ bytesN S, x < 128) (j : Nat) (b : UInt8) (hb : S.data.toList[j]? = some b) : b.toNat < 128 := h _ (List.mem_map_of_mem (List.mem_of_getElem? hb))

theorem libP_ok {f : Nat} {args : List V} {v : V} (h : libP f args = some v) (hU : ∀ {m : I.M} {E : Env} {w : World} {F : Nat → Prop}, I.inv m E w F → Lib.Utf8Tabs 1 2 w) {A : Array Value} (hS : Sim I K E s.H s.nx s.m w) (hA : VRs E args A.toList) :
    Calls Tryz.prog f A w fun e w' => ∃ W E', e = .returned W ∧ E.le E' ∧ VR E' v W ∧ Sim I K E' s.H s.nx s.m w' := by
  unfold libP at h
  cases h1 : Nat.beq f 162 with
  | true =>
    rw [h1] at h
    have := Nat.eq_of_beq_eq_true h1; subst this
    replace h : lib162 args = some v := h
    unfold lib162 at h
    split at h <;> first | (cases h; done) | skip
    rename_i l c
    obtain ⟨h2, h3⟩ := ck_eq h
    cases h3
    obtain ⟨W1, M1, e1, v1, hA1⟩ := hA.head
    obtain ⟨W2, M2, e2, v2, hA2⟩ := hA1.head
    have e3 : M2 = [] := List.eq_nil_of_length_eq_zero hA2.1.symm
    obtain ⟨S, rfl, rfl⟩ := str_inv v1
    cases v2
    have hA' : A = #[.string S, .int .u8 (Int.ofNat c)] := by apply Array.toList_inj.1; rw [e1, e2, e3]
    rw [hA']
    refine (Tryz.strings_IndexByte S (Int.ofNat c) w).mono ?_
    rintro e w' ⟨rfl, rfl⟩
    refine ⟨_, E, rfl, .refl E, ?_, hS⟩
    have hi := idxN_ok (Nat.le_of_ble_eq_true h2) S.data.toList 0
    unfold bytesN
    rw [hi]
    have : (if Lib.indexByte S.data.toList c.toUInt8 = -1 then (-1 : Int) else ((0 : Nat) : Int) + Lib.indexByte S.data.toList c.toUInt8) = Lib.indexByte S.data.toList c.toUInt8 := by
      split
      · rename_i h; exact h.symm
      · simp
    rw [this]
    exact .int _ _
  | false =>
    rw [h1] at h
    have low : ∀ {l : List Nat}, ck (Nat.blt (llen l) 65536) (ob (mapA lowN l) fun r => some (V.str r)) = some v → ∃ r, v = .str r ∧ l.length < 65536 ∧ r = l.map lowN ∧ ∀ x ∈ l, x < 128 := fun {l} h => by
      obtain ⟨q1, q2⟩ := ck_eq h
      obtain ⟨r, q3, q4⟩ := ob_eq q2
      cases q4
      obtain ⟨q5, q6⟩ := mapA_ok q3
      have q1 := Nat.le_of_ble_eq_true q1
      rw [llen_eq] at q1
      exact ⟨r, rfl, q1, q5, q6⟩
    cases h2 : Nat.beq f 243 with
    | true =>
      rw [h2] at h
      have := Nat.eq_of_beq_eq_true h2; subst this
      replace h : lib243 args = some v := h
      unfold lib243 at h
      split at h <;> first | (cases h; done) | skip
      rename_i l
      obtain ⟨r, rfl, q1, rfl, q3⟩ := low h
      obtain ⟨W1, M1, e1, v1, hA1⟩ := hA.head
      obtain ⟨W2, M2, e2, v2, hA2⟩ := hA1.head
      have e3 : M2 = [] := List.eq_nil_of_length_eq_zero hA2.1.symm
      obtain ⟨S, rfl, rfl⟩ := str_inv v2
      obtain ⟨F, L, rfl, f1, f2⟩ := v1.fn_inv
      have hF : F = #[] := Array.eq_empty_of_size_eq_zero (by have := f1.1; simpa using this.symm)
      have hL : L = #[] := Array.eq_empty_of_size_eq_zero (by have := f2.1; simpa using this.symm)
      subst hF hL
      have hA' : A = #[.func (.func 244) #[] #[], .string S] := by apply Array.toList_inj.1; rw [e1, e2, e3]
      rw [hA']
      rw [bytesN_length] at q1
      obtain ⟨FF, i1, _⟩ := hS.inv
      refine (Tryz.strings_Map_runes 244 #[] (fun args w => by simp [callFunc, Tryz.func244]; rfl) smallI S w (by omega) (fun W x hx _ => by
        show Calls Tryz.prog 244 (#[Value.int .i32 (x : Int)] ++ #[]) W _
        rw [Array.append_empty]; exact small_at x hx W) (fun x hx => by unfold smallI; split <;> omega) (hU i1)).mono ?_
      rintro e w' ⟨rfl, hb⟩
      exact ⟨_, E, rfl, .refl E, .str (by show List.map UInt8.toNat (Lib.mapD smallI S.data.toList).toArray.toList = _; exact mapD_small S.data.toList q3), hS.below hb⟩
    | false =>
      rw [h2] at h
      cases h3 : Nat.beq f 358 with
      | true =>
        rw [h3] at h
        have := Nat.eq_of_beq_eq_true h3; subst this
        replace h : lib1 upN args = some v := h
        unfold lib1 at h
        split at h <;> first | (cases h; done) | skip
        rename_i l
        obtain ⟨q1, q2⟩ := ck_eq h
        obtain ⟨r, q3, q4⟩ := ob_eq q2
        cases q4
        obtain ⟨rfl, q6⟩ := mapA_ok q3
        have q1 := Nat.le_of_ble_eq_true q1
        rw [llen_eq] at q1
        obtain ⟨W1, M1, e1, v1, hA1⟩ := hA.head
        have e3 : M1 = [] := List.eq_nil_of_length_eq_zero hA1.1.symm
        obtain ⟨S, rfl, rfl⟩ := str_inv v1
        have hA' : A = #[.string S] := by apply Array.toList_inj.1; rw [e1, e3]
        rw [hA']
        rw [bytesN_length] at q1
        refine (Tryz.strings_ToUpper_ascii S w (by omega) (ascii q6)).mono ?_
        rintro e w' ⟨rfl, hb⟩
        refine ⟨_, E, rfl, .refl E, .str ?_, hS.below hb⟩
        simp [bytesN, Lib.toUpperA, upperB_nat]
      | false =>
        rw [h3] at h
        cases h4 : Nat.beq f 336 with
        | true =>
          rw [h4] at h
          have := Nat.eq_of_beq_eq_true h4; subst this
          replace h : lib1 lowN args = some v := h
          unfold lib1 at h
          split at h <;> first | (cases h; done) | skip
          rename_i l
          obtain ⟨r, rfl, q1, rfl, q3⟩ := low h
          obtain ⟨W1, M1, e1, v1, hA1⟩ := hA.head
          have e3 : M1 = [] := List.eq_nil_of_length_eq_zero hA1.1.symm
          obtain ⟨S, rfl, rfl⟩ := str_inv v1
          have hA' : A = #[.string S] := by apply Array.toList_inj.1; rw [e1, e3]
          rw [hA']
          rw [bytesN_length] at q1
          refine (Tryz.strings_ToLower_ascii S w (by omega) (ascii q3)).mono ?_
          rintro e w' ⟨rfl, hb⟩
          refine ⟨_, E, rfl, .refl E, .str ?_, hS.below hb⟩
          simp [bytesN, Lib.toLowerA, lowerB_nat]
        | false => rw [h4] at h; cases h
end
end X
end Go.Proofs.YtnkjnclpakfgnaaGreatDoor
namespace Go.Proofs.YtnkjnclpakfgnaaGreatDoor
namespace X
open Go.RowKit

theorem told_at (x : Int) (w : World) : Calls Tryz.prog 355 #[.int .i64 x, .bool true] w fun e w' => e = .returned (.tuple #[.int .i64 x, .int .i64 0]) ∧ w' = w := by
  go_enter Tryz.func355, Tryz.ntmps355
  go_wp2_with fail
  go_ret2
  exact ⟨rfl, rfl⟩

theorem add_at (x y : Int) (w : World) (h1 : -4611686018427387904 ≤ x) (h2 : x < 4611686018427387904) (h3 : -4611686018427387904 ≤ y) (h4 : y < 4611686018427387904) :
    Calls Tryz.prog 315 #[.int .i64 x, .int .i64 y] w fun e w' => e = .returned (.tuple #[.int .i64 (x + y), .int .i64 0]) ∧ ∃ q, w' = w.drewN q := by
  have hT := fun w => Lib.hid (told_at (x + y) w)
  have hw : IntKind.i64.wrap (x + y) = x + y := IntWalk.i64_in _ (by omega)
  by_cases h : 0 < y
  · have d1 : decide (0 < y) = true := by simp; omega
    have d2 : decide (x < x + y) = true := by simp; omega
    clear h
    go_enter Tryz.func315, Tryz.ntmps315
    go_wp2_with (go_at_call 355; (with_reducible refine (hT _).out.mono ?_); intro e w1 hq; obtain ⟨rfl, rfl⟩ := hq)
    go_ret2
    exact ⟨rfl, 0, rfl⟩
  · have d1 : decide (0 < y) = false := by simp; omega
    have d2 : decide (x < x + y) = false := by simp; omega
    clear h
    go_enter Tryz.func315, Tryz.ntmps315
    go_wp2_with (go_at_call 355; (with_reducible refine (hT _).out.mono ?_); intro e w1 hq; obtain ⟨rfl, rfl⟩ := hq)
    go_ret2
    exact ⟨rfl, 0, rfl⟩
end X
end Go.Proofs.YtnkjnclpakfgnaaGreatDoor
namespace Go.Proofs.YtnkjnclpakfgnaaGreatDoor
namespace X

/-- A version on a page: its row; was it made by the transaction that runs; its end (0: none; 1: by the one that runs; 2: it is dead); its values. -/
structure RV where
  row : Nat
  mn : Bool
  mx : Nat
  vs : List V
abbrev PgM := List (Option RV)
/-- The pool's name, how many pages it has left at least, the heap's name, its pages. -/
structure HpM where
  pool : Nat
  left : Nat
  hp : Nat
  pgs : List PgM
/-- The log's name, how many may still begin, does one run, its number, its snapshot's, those that are committed, horizons above these. -/
structure TxM where
  lg : Nat
  fuel : Nat
  run : Bool
  own : Nat
  sa : Nat
  sb : Nat
  old : List Nat
  hor : List Nat
/-- All: trees, rows' bytes and what they say, keys, the next symbol, bounds, sums. -/
structure MM where
  h : HpM
  t : TxM
  tr : List Nat
  dt : List (Nat × List V)
  ky : List (Nat × V)
  ns : Nat
  bd : List (Nat × Nat)
  sm : List (Nat × V × V)

section
abbrev SM := S MM
/-- Of two, by a bit; of two, by a number: is it 0? -/
noncomputable def bq {α : Type} (b : Bool) (f t : α) : α := b.rec f t
noncomputable def nq {α : Type} (n : Nat) (z s : α) : α := n.rec z (fun _ _ => s)
/-- Is it that name? -/
noncomputable def nm (a b : Nat) : Bool := bq (Nat.beq a b) false (Nat.blt 0 b)
/-- Numbers of a kind, and symbols. -/
noncomputable def nK (k0 : Nat) (v : V) : Option Nat := match v with
  | .int k (.ofNat n) => ck (Nat.beq (kno k) k0) (some n)
  | _ => none
noncomputable def sU (v : V) : Option Nat := match v with
  | .sym k s => ck (Nat.beq (kno k) 7) (some s)
  | _ => none
noncomputable def mI (v : V) : Bool := match v with
  | .int k (.negSucc n) => bq (Nat.beq (kno k) 3) false (Nat.beq n 0)
  | _ => false
noncomputable def isI (v : V) : Bool := match v with
  | .int k _ => Nat.beq (kno k) 3
  | .sym k _ => Nat.beq (kno k) 3
  | _ => false
noncomputable def z0 : V := .int .i64 (.ofNat 0)
/-- What a number of a transaction is: none (0), the one that runs (1), committed (2). -/
noncomputable def xcl (run : Bool) (own : Nat) (old : List Nat) (v : V) : Option Nat := ck (isKey v) (match v with
  | .int _ n => ck (ieq n (.ofNat 0)) (some 0)
  | .sym _ s => bq (bq run false (Nat.beq s own)) (ck (lmem s old) (some 2)) (some 1)
  | _ => none)
noncomputable def lkp {α : Type} (k : Nat) (l : List (Nat × α)) : Option α := l.rec none (fun x _ ih => (Nat.beq x.1 k).rec ih (some x.2))

/-! ### the log -/
noncomputable def pClogNew (args : List V) (s : SM) : Option (V × SM) := match args, s with
  | [n], ⟨H, nx, ⟨⟨pool, left, hp, pgs⟩, ⟨lg, fuel, run, own, sa, sb, _, _⟩, tr, dt, ky, ns, bd, sm⟩⟩ => ob (nK 7 n) fun n => ck (Nat.beq n 1) (ck (Nat.beq lg 0) (ck (Nat.beq hp 0) (ck (bq run true false) (fN (nx + 1) fun nx' =>
    some (.tup [.ptr nx 0, z0], ⟨H, nx', ⟨⟨pool, left, hp, pgs⟩, ⟨nx, fuel, false, own, sa, sb, [], []⟩, tr, dt, ky, ns, bd, sm⟩⟩)))))
  | _, _ => none
noncomputable def pBegin (args : List V) (s : SM) : Option (V × SM) := match args, s with
  | [.ptr l o], ⟨H, nx, ⟨h, ⟨lg, fuel, run, _, _, _, old, _⟩, tr, dt, ky, ns, bd, sm⟩⟩ => ck (nm l lg) (ck (Nat.beq o 0) (ck (bq run true false) (ck (Nat.blt 0 fuel) (fN (fuel - 1) fun fuel' => fN (ns + 1) fun n1 => fN (n1 + 1) fun n2 =>
    some (.tup [.sym .u64 ns, z0], ⟨H, nx, ⟨h, ⟨lg, fuel', true, ns, n1, n1, old, []⟩, tr, dt, ky, n2, bd, sm⟩⟩)))))
  | _, _ => none
noncomputable def pNext (args : List V) (s : SM) : Option (V × SM) := match args, s with
  | [.ptr l o], ⟨H, nx, ⟨h, ⟨lg, fuel, run, own, sa, sb, old, hor⟩, tr, dt, ky, ns, bd, sm⟩⟩ => ck (nm l lg) (ck (Nat.beq o 0) (ck run (some (.sym .u64 sa, ⟨H, nx, ⟨h, ⟨lg, fuel, run, own, sa, sb, old, hor⟩, tr, dt, ky, ns, bd, sm⟩⟩))))
  | _, _ => none
/-- What ran is committed now. -/
noncomputable def doneP (l : PgM) : Option PgM := l.rec (some []) fun x _ ih => ob ih fun r => match x with
  | none => some (none :: r)
  | some ⟨row, _, mx, vs⟩ => fN (nq mx 0 2) fun mx => some (some ⟨row, false, mx, vs⟩ :: r)
noncomputable def donePs (l : List PgM) : Option (List PgM) := l.rec (some []) fun x _ ih => ob ih fun r => ob (doneP x) fun y => some (y :: r)
noncomputable def pCommit (args : List V) (s : SM) : Option (V × SM) := match args, s with
  | [.ptr l o, x], ⟨H, nx, ⟨⟨pool, left, hp, pgs⟩, ⟨lg, fuel, run, own, sa, sb, old, hor⟩, tr, dt, ky, ns, bd, sm⟩⟩ => ck (nm l lg) (ck (Nat.beq o 0) (ck run (ob (sU x) fun x => ck (Nat.beq x own) (ob (donePs pgs) fun pgs =>
    some (z0, ⟨H, nx, ⟨⟨pool, left, hp, pgs⟩, ⟨lg, fuel, false, own, sa, sb, own :: old, hor⟩, tr, dt, ky, ns, bd, sm⟩⟩)))))
  | _, _ => none
noncomputable def pState (args : List V) (s : SM) : Option (V × SM) := match args, s with
  | [.ptr l o, x], ⟨H, nx, ⟨h, ⟨lg, fuel, run, own, sa, sb, old, hor⟩, tr, dt, ky, ns, bd, sm⟩⟩ => ck (nm l lg) (ck (Nat.beq o 0) (ob (xcl run own old x) fun c => fN c fun c =>
    some (.int .i64 (.ofNat c), ⟨H, nx, ⟨h, ⟨lg, fuel, run, own, sa, sb, old, hor⟩, tr, dt, ky, ns, bd, sm⟩⟩)))
  | _, _ => none
noncomputable def pAll (args : List V) (s : SM) : Option (V × SM) := match args, s with
  | [.ptr l o], ⟨H, nx, ⟨h, ⟨lg, fuel, run, own, sa, sb, old, hor⟩, tr, dt, ky, ns, bd, sm⟩⟩ => ck (nm l lg) (ck (Nat.beq o 0) (ck run (newB ⟨H, nx, ⟨h, ⟨lg, fuel, run, own, sa, sb, old, hor⟩, tr, dt, ky, ns, bd, sm⟩⟩ (.grow 40 1 [.sym .u64 own]) (.sg nx 0 1 1))))
  | _, _ => none
/-- Is it the snapshot of the one that runs? -/
noncomputable def isSnap (run : Bool) (own sa sb : Nat) (v : V) : Option Nat := match v with
  | .agg [x, a, b, .nils] => ck run (ob (sU x) fun x => ob (sU a) fun a => ob (sU b) fun b => ck (Nat.beq x own) (ck (Nat.beq a sa) (ck (Nat.beq b sb) (some 0))))
  | _ => none
/-- A version's stamps. -/
noncomputable def tupV (v : V) : Option (V × V) := match v with
  | .agg [r, a, b, p, q, d] => ck (isKey r) (ck (isI p) (ck (isI q) (ck (one d) (some (a, b)))))
  | _ => none
noncomputable def visC (a b : Nat) : Bool := nq a false (nq b true false)
noncomputable def pVis (args : List V) (s : SM) : Option (V × SM) := match args, s with
  | [.ptr l o, sn, tv], ⟨H, nx, ⟨h, ⟨lg, fuel, run, own, sa, sb, old, hor⟩, tr, dt, ky, ns, bd, sm⟩⟩ => ck (nm l lg) (ck (Nat.beq o 0) (ob (isSnap run own sa sb sn) fun _ => ob (tupV tv) fun ab => ob (xcl run own old ab.1) fun ca => ob (xcl run own old ab.2) fun cb =>
    fB (visC ca cb) fun r => some (.bool r, ⟨H, nx, ⟨h, ⟨lg, fuel, run, own, sa, sb, old, hor⟩, tr, dt, ky, ns, bd, sm⟩⟩)))
  | _, _ => none
noncomputable def pFree (args : List V) (s : SM) : Option (V × SM) := match args, s with
  | [.ptr l o, sn, tv], ⟨H, nx, ⟨h, ⟨lg, fuel, run, own, sa, sb, old, hor⟩, tr, dt, ky, ns, bd, sm⟩⟩ => ck (nm l lg) (ck (Nat.beq o 0) (ob (isSnap run own sa sb sn) fun _ => ob (tupV tv) fun ab => ob (xcl run own old ab.1) fun ca => ob (xcl run own old ab.2) fun cb =>
    ck (visC ca cb) (ck (Nat.beq cb 0) (some (z0, ⟨H, nx, ⟨h, ⟨lg, fuel, run, own, sa, sb, old, hor⟩, tr, dt, ky, ns, bd, sm⟩⟩)))))
  | _, _ => none
noncomputable def deadC (b : Nat) : Bool := Nat.beq b 2
noncomputable def pDead (args : List V) (s : SM) : Option (V × SM) := match args, s with
  | [.ptr l o, tv, z], ⟨H, nx, ⟨h, ⟨lg, fuel, run, own, sa, sb, old, hor⟩, tr, dt, ky, ns, bd, sm⟩⟩ => ck (nm l lg) (ck (Nat.beq o 0) (ob (sU z) fun z => ck (lmem z hor) (ob (tupV tv) fun ab => ob (xcl run own old ab.1) fun _ => ob (xcl run own old ab.2) fun cb =>
    fB (deadC cb) fun r => some (.bool r, ⟨H, nx, ⟨h, ⟨lg, fuel, run, own, sa, sb, old, hor⟩, tr, dt, ky, ns, bd, sm⟩⟩))))
  | _, _ => none
noncomputable def snapsOk (run : Bool) (own sa sb : Nat) (l : List (V × V)) : Option Nat := match l with
  | [] => some 0
  | [(k, v)] => ck (isKey k) (isSnap run own sa sb v)
  | _ => none
noncomputable def pHor (args : List V) (s : SM) : Option (V × SM) := match args, s with
  | [.ptr st o], ⟨H, nx, ⟨h, ⟨lg, fuel, run, own, sa, sb, old, hor⟩, tr, dt, ky, ns, bd, sm⟩⟩ => ck (Nat.beq o 0) (ob (hget H st) fun ob' => ob (rowV ob') fun r => match r with
    | .ptr l o :: _ :: _ :: _ :: _ :: .mp sp :: _ => ck (nm l lg) (ck (Nat.beq o 0) (ob (mapL (M := Unit) ⟨H, nx, ()⟩ sp) fun l => ob (snapsOk run own sa sb l) fun _ => fN (ns + 1) fun n' =>
      some (.sym .u64 ns, ⟨H, nx, ⟨h, ⟨lg, fuel, run, own, sa, sb, old, ns :: hor⟩, tr, dt, ky, n', bd, sm⟩⟩)))
    | _ => none)
  | _, _ => none

/-! ### the heap -/
noncomputable def pPool (args : List V) (s : SM) : Option (V × SM) := match args, s with
  | [n], ⟨H, nx, ⟨⟨pool, _, hp, pgs⟩, t, tr, dt, ky, ns, bd, sm⟩⟩ => ob (nK 3 n) fun n => ck (Nat.ble n 256) (ck (Nat.beq pool 0) (ck (Nat.beq hp 0) (fN n fun n => fN (nx + 1) fun nx' => some (.tup [.ptr nx 0, z0], ⟨H, nx', ⟨⟨nx, n, hp, pgs⟩, t, tr, dt, ky, ns, bd, sm⟩⟩))))
  | _, _ => none
noncomputable def pHnew (args : List V) (s : SM) : Option (V × SM) := match args, s with
  | [.ptr p o], ⟨H, nx, ⟨⟨pool, left, hp, _⟩, t, tr, dt, ky, ns, bd, sm⟩⟩ => ck (nm p pool) (ck (Nat.beq o 0) (ck (Nat.beq hp 0) (fN (nx + 1) fun nx' => some (.ptr nx 0, ⟨H, nx', ⟨⟨pool, left, nx, []⟩, t, tr, dt, ky, ns, bd, sm⟩⟩))))
  | _, _ => none
/-- What a page has given away, and is a slot of it free? -/
noncomputable def usedM (l : PgM) : Nat := l.rec 0 fun x _ ih => match x with
  | none => fN (ih + 4) fun n => n
  | some v => fN (ih + (35 + 8 * llen v.vs)) fun n => n
noncomputable def gapM (l : PgM) : Bool := l.rec false fun x _ ih => match x with
  | none => true
  | some _ => ih
noncomputable def fitsM (n : Nat) (l : PgM) : Bool := bq (gapM l) (Nat.ble (usedM l + 4 + n) 478) (Nat.ble (usedM l + n) 478)
/-- The least slot that is free. -/
noncomputable def slotM (v : RV) (l : PgM) : Nat → Option (Nat × PgM) := l.rec (fun k => some (k, [some v])) fun x l ih k => match x with
  | none => some (k, some v :: l)
  | some u => fN (k + 1) fun k' => ob (ih k') fun r => some (r.1, some u :: r.2)
/-- The least page with room. -/
noncomputable def pageM (n : Nat) (v : RV) (l : List PgM) : Nat → Option (Option (Nat × Nat × List PgM)) := l.rec (fun _ => some none) fun x l ih k => bq (fitsM n x)
  (fN (k + 1) fun k' => ob (ih k') fun r => match r with
    | none => some none
    | some ⟨p, q, l'⟩ => some (some (p, q, x :: l')))
  (ob (slotM v x 0) fun r => some (some (k, r.1, r.2 :: l)))
noncomputable def tid (p q : Nat) : V := .agg [.int .i64 (.ofNat p), .int .i64 (.ofNat q)]
noncomputable def pIns (args : List V) (s : SM) : Option (V × SM) := match args, s with
  | [.ptr h o, .agg [row, x, z, a, b, .bs d len]], ⟨H, nx, ⟨⟨pool, left, hp, pgs⟩, ⟨lg, fuel, run, own, sa, sb, old, hor⟩, tr, dt, ky, ns, bd, sm⟩⟩ =>
    ck (nm h hp) (ck (Nat.beq o 0) (ck run (ob (nK 7 row) fun row => ob (sU x) fun x => ob (nK 7 z) fun z => ck (Nat.beq x own) (ck (Nat.beq z 0) (ck (mI a) (ck (mI b) (ck (Nat.blt row 1000000) (ob (lkp d dt) fun vs => fN (1 + 8 * llen vs) fun n => ck (Nat.beq len n) (ck (Nat.blt n 200) (fN row fun row =>
      ob (pageM n ⟨row, true, 0, vs⟩ pgs 0) fun r => match r with
        | some ⟨p, q, pgs⟩ => some (.tup [tid p q, z0], ⟨H, nx, ⟨⟨pool, left, hp, pgs⟩, ⟨lg, fuel, run, own, sa, sb, old, hor⟩, tr, dt, ky, ns, bd, sm⟩⟩)
        | none => ck (Nat.blt 0 left) (fN (left - 1) fun left => fN (llen pgs) fun p => ob (lapp pgs [[some ⟨row, true, 0, vs⟩]]) fun pgs => some (.tup [tid p 0, z0], ⟨H, nx, ⟨⟨pool, left, hp, pgs⟩, ⟨lg, fuel, run, own, sa, sb, old, hor⟩, tr, dt, ky, ns, bd, sm⟩⟩))))))))))))
  | _, _ => none
noncomputable def atM (pgs : List PgM) (p q : Nat) : Option (Option RV) := ob (lget p pgs) fun l => lget q l
noncomputable def pGet (args : List V) (s : SM) : Option (V × SM) := match args, s with
  | [.ptr h o, .agg [p, q]], ⟨H, nx, ⟨⟨pool, left, hp, pgs⟩, ⟨lg, fuel, run, own, sa, sb, old, hor⟩, tr, dt, ky, ns, bd, sm⟩⟩ =>
    ck (nm h hp) (ck (Nat.beq o 0) (ob (nK 3 p) fun p => ob (nK 3 q) fun q => ob (atM pgs p q) fun r => match r with
      | none => none
      | some ⟨row, mn, mx, vs⟩ => fN (nx + 1) fun nx' => fN (1 + 8 * llen vs) fun n => fN ns fun s0 => fN (s0 + 1) fun s1 => fN (s1 + 1) fun s2 => fN (s2 + 1) fun s3 => fN (s3 + 1) fun s4 => fN row fun row =>
        ob (bq mn (some (s0 :: old)) (some old)) fun old1 => ob (bq (Nat.beq mx 2) (some old1) (some (s1 :: old1))) fun old2 =>
        some (.tup [.agg [.int .u64 (.ofNat row), bq mn (V.sym .u64 s0) (V.sym .u64 own), nq mx (V.int .u64 (.ofNat 0)) (bq (Nat.beq mx 2) (V.sym .u64 own) (V.sym .u64 s1)), .sym .i64 s2, .sym .i64 s3, .bs nx n], .bool true],
          ⟨H, nx', ⟨⟨pool, left, hp, pgs⟩, ⟨lg, fuel, run, own, sa, sb, old2, hor⟩, tr, (nx, vs) :: dt, ky, s4, bd, sm⟩⟩)))
  | _, _ => none
noncomputable def putM (pgs : List PgM) (p q : Nat) (f : RV → RV) : Option (List PgM) := ob (lget p pgs) fun l => ob (lget q l) fun x => ob x fun v => ob (lset q l (some (f v))) fun l' => lset p pgs l'
noncomputable def endsV : V → V → Bool
  | .int k (.ofNat p), .int k' (.ofNat q) => bq (Nat.beq (kno k) 3) false (bq (Nat.beq (kno k') 3) false (bq (Nat.blt p 65536) false (Nat.blt q 65535)))
  | _, _ => false
noncomputable def pStamp (args : List V) (s : SM) : Option (V × SM) := match args, s with
  | [.ptr h o, .agg [p, q], x, .agg [a, b]], ⟨H, nx, ⟨⟨pool, left, hp, pgs⟩, ⟨lg, fuel, run, own, sa, sb, old, hor⟩, tr, dt, ky, ns, bd, sm⟩⟩ =>
    ck (nm h hp) (ck (Nat.beq o 0) (ck run (ob (nK 3 p) fun p => ob (nK 3 q) fun q => ob (sU x) fun x => ck (Nat.beq x own) (ck (endsV a b) (ob (putM pgs p q fun v => match v with | ⟨row, mn, _, vs⟩ => ⟨row, mn, 1, vs⟩) fun pgs =>
      some (z0, ⟨H, nx, ⟨⟨pool, left, hp, pgs⟩, ⟨lg, fuel, run, own, sa, sb, old, hor⟩, tr, dt, ky, ns, bd, sm⟩⟩))))))
  | _, _ => none
/-- Slots that are free at the end are struck. -/
noncomputable def trimM (l : PgM) : Option PgM := l.rec (some []) fun x _ ih => ob ih fun r => match x with
  | some v => some (some v :: r)
  | none => match r with
    | [] => some []
    | y :: r => some (none :: y :: r)
noncomputable def pHfree (args : List V) (s : SM) : Option (V × SM) := match args, s with
  | [.ptr h o, .agg [p, q]], ⟨H, nx, ⟨⟨pool, left, hp, pgs⟩, t, tr, dt, ky, ns, bd, sm⟩⟩ =>
    ck (nm h hp) (ck (Nat.beq o 0) (ob (nK 3 p) fun p => ob (nK 3 q) fun q => ob (lget p pgs) fun l => ob (lget q l) fun x => ob x fun _ => ob (lset q l none) fun l => ob (trimM l) fun l => ob (lset p pgs l) fun pgs => some (z0, ⟨H, nx, ⟨⟨pool, left, hp, pgs⟩, t, tr, dt, ky, ns, bd, sm⟩⟩)))
  | _, _ => none
noncomputable def pHpages (args : List V) (s : SM) : Option (V × SM) := match args, s with
  | [.ptr h o], ⟨H, nx, ⟨⟨pool, left, hp, pgs⟩, t, tr, dt, ky, ns, bd, sm⟩⟩ => ck (nm h hp) (ck (Nat.beq o 0) (fN (llen pgs) fun n => some (.int .i64 (.ofNat n), ⟨H, nx, ⟨⟨pool, left, hp, pgs⟩, t, tr, dt, ky, ns, bd, sm⟩⟩)))
  | _, _ => none
noncomputable def tidsM (p : Nat) (l : PgM) : Nat → Option (List V) := l.rec (fun _ => some []) fun x _ ih k => fN (k + 1) fun k' => ob (ih k') fun r => match x with
  | none => some r
  | some _ => some (.int .i64 (.ofNat p) :: .int .i64 (.ofNat k) :: r)
noncomputable def pHpage (args : List V) (s : SM) : Option (V × SM) := match args, s with
  | [.ptr h o, p], ⟨H, nx, ⟨⟨pool, left, hp, pgs⟩, t, tr, dt, ky, ns, bd, sm⟩⟩ => ck (nm h hp) (ck (Nat.beq o 0) (ob (nK 3 p) fun p => ob (lget p pgs) fun l => fN p fun p => ob (tidsM p l 0) fun r => match r with
    | [] => ck (Nat.beq (llen l) 0) (some (.nils, ⟨H, nx, ⟨⟨pool, left, hp, pgs⟩, t, tr, dt, ky, ns, bd, sm⟩⟩))
    | r => fN (llen r / 2) fun n => newB ⟨H, nx, ⟨⟨pool, left, hp, pgs⟩, t, tr, dt, ky, ns, bd, sm⟩⟩ (.grow 124 2 r) (.sg nx 0 2 n)))
  | _, _ => none

/-! ### trees, rows, keys -/
/-- The same number, or symbol. -/
noncomputable def eqvV (a b : V) : Bool := match a, b with
  | .int k n, .int k' m => bq (Nat.beq (kno k) (kno k')) false (ieq n m)
  | .sym k s, .sym k' t => bq (Nat.beq (kno k) (kno k')) false (Nat.beq s t)
  | _, _ => false
/-- Is s told to be t and more? -/
noncomputable def moreM (s t : Nat) (l : List (Nat × V × V)) : Bool := l.rec false fun x _ ih => match x with
  | (q, .sym _ u, .int _ (.ofNat n)) => bq (Nat.beq q s) ih (bq (Nat.beq u t) ih (bq (Nat.blt 0 n) ih true))
  | _ => ih
/-- Less (0), the same (1), greater (2). -/
noncomputable def cmpI (n m : Int) : Nat := bq (ilt n m) (bq (ieq n m) 2 1) 0
noncomputable def cmpM (sm : List (Nat × V × V)) (a b : V) : Option Nat := match a, b with
  | .int _ n, .int _ m => fN (cmpI n m) some
  | .sym _ s, .sym _ t => bq (Nat.beq s t) (bq (moreM s t sm) (bq (moreM t s sm) none (some 0)) (some 2)) (some 1)
  | _, _ => none
noncomputable def orN (a b c : Nat) : Nat := bq (Nat.beq a 1) a (bq (Nat.beq b 1) b c)
noncomputable def ordI (n : Nat) : Int := nq n (.negSucc 0) (nq (n - 1) (.ofNat 0) (.ofNat 1))
/-- A key's entry. -/
noncomputable def entM (ky : List (Nat × V)) (v : V) : Option (V × Nat × Nat) := match v with
  | .agg [.bs d len, p, q] => ck (Nat.beq len 9) (ob (lkp d ky) fun k => ob (nK 3 p) fun p => ob (nK 3 q) fun q => some (k, p, q))
  | _ => none
noncomputable def pOrd (args : List V) (s : SM) : Option (V × SM) := match args, s with
  | [a, b], ⟨H, nx, ⟨h, t, tr, dt, ky, ns, bd, sm⟩⟩ => ob (entM ky a) fun x => ob (entM ky b) fun y => ob (cmpM sm x.1 y.1) fun c =>
      fN (orN c (cmpI (.ofNat x.2.1) (.ofNat y.2.1)) (cmpI (.ofNat x.2.2) (.ofNat y.2.2))) fun r => fI (ordI r) fun r => some (.int .i64 r, ⟨H, nx, ⟨h, t, tr, dt, ky, ns, bd, sm⟩⟩)
  | _, _ => none
noncomputable def pCopyOf (args : List V) (s : SM) : Option (V × SM) := match args, s with
  | [.agg [.bs d len, p, q]], ⟨H, nx, ⟨h, t, tr, dt, ky, ns, bd, sm⟩⟩ => ck (Nat.beq len 9) (ck (isI p) (ck (isI q) (ob (lkp d ky) fun k => fN (nx + 1) fun nx' => some (.agg [.bs nx 9, p, q], ⟨H, nx', ⟨h, t, tr, dt, (nx, k) :: ky, ns, bd, sm⟩⟩))))
  | _, _ => none
/-- A row's name, how many elements it has, its cells. -/
noncomputable def rowM (H : T O) (e sz : Nat) (v : V) : Option (Option Nat × Nat × List V) := match v with
  | .nils => some (none, 0, [])
  | .sg id i sz' n => ck (Nat.beq i 0) (ck (Nat.beq sz sz') (ob (hget H id) fun o => match o with
    | .grow t s l => ck (Nat.beq t e) (ck (Nat.beq s sz) (ob (ltake (n * sz) l) fun xs => some (some id, n, xs)))
    | _ => none))
  | .sl id i n c => ck (Nat.beq i 0) (ob (hget H id) fun o => match o with
    | .cells t l => ck (Nat.beq t e) (ck (Nat.ble n c) (ck (Nat.beq (llen l) (c * sz)) (ck (Nat.blt c 65536) (ob (ltake (n * sz) l) fun xs => some (some id, n, xs)))))
    | _ => none)
  | _ => none
noncomputable def oneM (H : T O) (e sz : Nat) (v : V) : Option (Nat × List V) := match v with
  | .sl id i n _ => ck (Nat.beq i 0) (ck (Nat.beq n 1) (ob (hget H id) fun o => match o with
    | .cells t l => ck (Nat.beq t e) (ck (Nat.beq (llen l) sz) (some (id, l)))
    | _ => none))
  | _ => none
noncomputable def pSIns (e sz : Nat) (args : List V) (s : SM) : Option (V × SM) := match args, s with
  | [a, i, b], ⟨H, nx, m⟩ => ob (rowM H e sz a) fun r => ob (nK 3 i) fun i => ob (oneM H e sz b) fun y => ck (Nat.ble i r.2.1) (ck (Nat.blt r.2.1 65536) (ck (lones r.2.2) (ck (lones y.2) (ob (ltake (i * sz) r.2.2) fun l1 => ob (lapp y.2 (ldrop (i * sz) r.2.2)) fun l2 => ob (lapp l1 l2) fun l =>
      ob (match r.1 with
        | none => some H
        | some id => ck (bq (Nat.beq id y.1) true false) (hset H id .dead)) fun H => fN (r.2.1 + 1) fun n => newB ⟨H, nx, m⟩ (.grow e sz l) (.sg nx 0 sz n)))))
  | _, _ => none
noncomputable def kind1 (v : V) : Bool := (nK 4 v).rec false (fun k => Nat.beq k 1)
/-- Values that are numbers. -/
noncomputable def numsM (l : List V) : Nat → Option (List V) := fun n => n.rec (motive := fun _ => List V → Option (List V)) (fun _ => some []) (fun _ ih l => match l with
  | k :: a :: .str [] :: .bool false :: l => ob (nK 4 k) fun k => ck (Nat.beq k 1) (ck (isI a) (ob (ih l) fun r => some (a :: r)))
  | _ => none) l
noncomputable def valsM (l : List V) : Option (List V) := l.rec (some []) fun a _ ih => ob ih fun r => some (.int .u8 (.ofNat 1) :: a :: .str [] :: .bool false :: r)
/-! ### sums -/
noncomputable def bdV (bd : List (Nat × Nat)) (v : V) : Option Nat := match v with
  | .int _ (.ofNat n) => fN n some
  | .int _ (.negSucc n) => fN (n + 1) some
  | .sym _ s => lkp s bd
  | _ => none
/-- A sum that was taken before. -/
noncomputable def sumM (a b : V) (l : List (Nat × V × V)) : Option Nat := l.rec none fun x _ ih => bq (bq (eqvV x.2.1 a) false (eqvV x.2.2 b)) ih (some x.1)
noncomputable def pAdd (args : List V) (s : SM) : Option (V × SM) := match args, s with
  | [a, b], ⟨H, nx, ⟨h, t, tr, dt, ky, ns, bd, sm⟩⟩ => ck (isI a) (ck (isI b) (ob (bdV bd a) fun x => ob (bdV bd b) fun y => ck (Nat.blt (x + y) 2305843009213693952) (match a, b with
    | .int _ n, .int _ m => fI (n + m) fun r => some (.tup [.int .i64 r, z0], ⟨H, nx, ⟨h, t, tr, dt, ky, ns, bd, sm⟩⟩)
    | a, b => match sumM a b sm with
      | some q => some (.tup [.sym .i64 q, z0], ⟨H, nx, ⟨h, t, tr, dt, ky, ns, bd, sm⟩⟩)
      | none => fN (x + y) fun q => fN (ns + 1) fun n' => some (.tup [.sym .i64 ns, z0], ⟨H, nx, ⟨h, t, tr, dt, ky, n', (ns, q) :: bd, (ns, a, b) :: sm⟩⟩))))
  | _, _ => none
end
end X
end Go.Proofs.YtnkjnclpakfgnaaGreatDoor
namespace Go.Proofs.YtnkjnclpakfgnaaGreatDoor
open Go.RowKit
theorem pairKind124 : PairKind Tryz.prog 124 := by
  have h2 := Tryz.underlying124
  have h3 := Tryz.underlying3
  refine ⟨⟨_, h2, fun a b => rfl⟩, fun a b w => ?_, fun em a w => ?_⟩
  · unfold Op.equal Op.maxDepth pairK
    rw [run_equalIn_struct w 9999 124 _ _ (by simp [Program.fieldsOf, h2]) (by kernel_rfl)]
    simp [Program.fieldsOf, h2, Op.eqFields, part]
    rw [run_equalIn_int w 9998 3 _ _ _ _ h3]
    simp only [Result.andThen]
    by_cases e : a / 65536 = b / 65536
    · rw [run_equalIn_int w 9998 3 _ _ _ _ h3]
      simp only [e]
      by_cases e2 : a % 65536 = b % 65536
      · have : a = b := by omega
        simp [this]
      · have : a ≠ b := fun x => e2 (by rw [x])
        simp [e2, this]
    · have : a ≠ b := fun x => e (by rw [x])
      simp [e, this]
  · have hc : ∀ (n : Int) w, (Instr.checkKey em 9999 3 (.int .i64 n)).run Tryz.prog w = .ok () w := fun n w => by
      unfold Instr.checkKey
      simp [run_underlying h3]
    unfold pairK
    unfold Instr.checkKey
    simp [run_underlying h2]
    simp [part, hc, Result.andThen]

end Go.Proofs.YtnkjnclpakfgnaaGreatDoor
