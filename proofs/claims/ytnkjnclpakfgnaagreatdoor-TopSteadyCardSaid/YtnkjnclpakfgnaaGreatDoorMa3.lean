/- The executor, 5: all the operations that leave the world alone. · The executor, 6: structs put together, and the table of the operations that leave the world alone. · The executor, 7: the table of the operations that leave the world alone. · The executor, 8: loads, stores, new blocks. No conditions. -/
import Derived.Test.YtnkjnclpakfgnaaGreatDoorMa2
import Derived.Great.FillDense
import Derived.Great.BuildSlice
namespace Go.Proofs.YtnkjnclpakfgnaaGreatDoor
namespace X

/-- A bound of a slice. -/
noncomputable def bnd (ev : Operand → Option V) (most dflt : Nat) (x : Option Operand) (k : Nat → Option V) : Option V :=
  match x with
  | none => k dflt
  | some x => ob (ev x) fun v => match v with
    | .int _ (.ofNat n) => ck (Nat.ble n most) (k n)
    | _ => none

section
variable (P : Program) (ev : Operand → Option V)

noncomputable def evs (l : List Operand) : Option (List V) := l.rec (some []) (fun x _ ih => ob (ev x) fun v => ob ih fun r => some (v :: r))
/-- parts laid into cells -/
noncomputable def fillV (l : List (Nat × Operand)) : (Nat → Option (Nat × Nat)) → List V → Option (List V) :=
  l.rec (fun _ cs => some cs) (fun x _ ih place cs => ob (place x.1) fun p => ob (ev x.2) fun v =>
    ck (Nat.beq (llen (cellsV v)) p.2) (ob (ltake p.1 cs) fun a => ob (lapp (cellsV v) (ldrop p.2 (ldrop p.1 cs))) fun b => ck (Nat.ble (p.1 + p.2) (llen cs)) (ob (lapp a b) fun r => ih place r)))

noncomputable def popSlice (t : Nat) (x : Operand) (lo hi : Option Operand) : Option V := ob (ev x) fun v => match v with
  | .str l => uT P t fun d => match d with
    | .string => bnd ev (llen l) (llen l) hi fun h => bnd ev h 0 lo fun lo => fN (h - lo) fun n => ob (ltake n (ldrop lo l)) fun r => some (.str r)
    | _ => none
  | .sl id off len cap => ob (elT P t) fun e => ob (szT P e) fun sz => ck (Nat.ble len cap) (bnd ev cap len hi fun h => bnd ev h 0 lo fun lo =>
    (Nat.beq cap lo).rec (fN (off + lo * sz) fun o => fN (h - lo) fun n => fN (cap - lo) fun c => some (.sl id o n c)) (some (.sl id off 0 0)))
  | .sg id i sz len => ob (elT P t) fun e => ob (szT P e) fun sz' => ck (Nat.beq sz sz') (bnd ev len len hi fun h => bnd ev h 0 lo fun lo =>
    (Nat.blt lo len).rec (some .se) (fN (i + lo) fun o => fN (h - lo) fun n => some (.sg id o sz n)))
  | .nils => ob (elT P t) fun e => ob (szT P e) fun _ => bnd ev 0 0 hi fun h => bnd ev h 0 lo fun _ => some .nils
  | .ptr id off => uT P t fun d => match d with
    | .array n e => ob (szT P e) fun sz => bnd ev n n hi fun h => bnd ev h 0 lo fun lo => (Nat.beq n lo).rec (fN (off + lo * sz) fun o => fN (h - lo) fun k => fN (n - lo) fun c => some (.sl id o k c)) (some (.sl id off 0 0))
    | _ => none
  | _ => none
end

section
variable {P : Program} {E : Env} {ev : Operand → Option V} {ρ : Operand → Value} (hev : ∀ {x v}, ev x = some v → VR E v (ρ x))
include hev
theorem bnd_ok {most dflt : Nat} {x : Option Operand} {k : Nat → Option V} {r : V} (h : bnd ev most dflt x k = some r) :
    ∃ n, k n = some r ∧ (x = none → n = dflt) ∧ (x.isSome → n ≤ most) ∧ ∀ (M : Nat) (code : BoundsCode) (w : World), most ≤ M → (match x.map ρ with | some v => Instr.sliceBound v M code | none => (pure dflt : Sem Nat)).run P w = .ok n w := by
  cases x with
  | none => exact ⟨dflt, h, fun _ => rfl, by simp, fun M code w _ => rfl⟩
  | some x =>
    obtain ⟨v, hv, h⟩ := ob_eq h
    have hr := hev hv
    cases v with
    | int k' n =>
      cases n with
      | ofNat n =>
        obtain ⟨h1, h⟩ := ck_eq h
        have h1 := Nat.le_of_ble_eq_true h1
        refine ⟨n, h, by simp, fun _ => h1, fun M code w hM => ?_⟩
        cases hx : ρ x with
        | int k'' n' =>
          rw [hx] at hr; cases hr
          simp only [Option.map_some, Instr.sliceBound, hx, asIntOf, Int.ofNat_eq_natCast]
          simp only [Sem.run_bind, Sem.run_pure, Result.andThen_ok]
          rw [if_pos (by constructor <;> omega)]
          simp
        | _ => rw [hx] at hr; cases hr
      | negSucc n => cases h
    | _ => cases h

theorem bnds_ok {sl : Bool} {most len cap : Nat} {lo hi : Option Operand} {k : Nat → Nat → Option V} {r : V} (h : bnd ev most len hi (fun h => bnd ev h 0 lo fun l => k l h) = some r) (hm : most ≤ cap) (hl : len ≤ most) :
    ∃ l h, k l h = some r ∧ l ≤ h ∧ h ≤ most ∧ ∀ w : World, (Instr.sliceBounds sl len cap (lo.map ρ) (hi.map ρ) none).run P w = .ok (l, h, cap) w := by
  obtain ⟨h', h1, h2, h3, h4⟩ := bnd_ok (P := P) hev h
  obtain ⟨l, l1, l2, l3, l4⟩ := bnd_ok (P := P) hev h1
  have hle : l ≤ h' := by
    cases lo with
    | none => rw [l2 rfl]; exact Nat.zero_le _
    | some _ => exact l3 rfl
  have hmo : h' ≤ most := by
    cases hi with
    | none => rw [h2 rfl]; exact hl
    | some _ => exact h3 rfl
  refine ⟨l, h', l1, hle, hmo, fun w => ?_⟩
  have e1 := fun code => h4 cap code w hm
  have e2 := fun code => l4 h' code w (Nat.le_refl _)
  unfold Instr.sliceBounds
  cases hi with
  | none =>
    have := h2 rfl; subst this
    cases lo with
    | none => have := l2 rfl; subst this; simp
    | some x => simp only [Option.map_none, Sem.run_bind, Sem.run_pure, Result.andThen_ok, Option.map_some]; rw [show (Instr.sliceBound (ρ x) h' (if (none : Option Value).isSome = true then BoundsCode.slice3C else BoundsCode.sliceB)).run P w = .ok l w from e2 _]; rfl
  | some y =>
    cases lo with
    | none =>
      have := l2 rfl; subst this
      simp only [Option.map_none, Sem.run_bind, Sem.run_pure, Result.andThen_ok, Option.map_some]
      rw [show (Instr.sliceBound (ρ y) cap (if sl = true then BoundsCode.sliceAcap else BoundsCode.sliceAlen)).run P w = .ok h' w from e1 _]; rfl
    | some x =>
      simp only [Sem.run_bind, Sem.run_pure, Result.andThen_ok, Option.map_some]
      rw [show (Instr.sliceBound (ρ y) cap (if sl = true then BoundsCode.sliceAcap else BoundsCode.sliceAlen)).run P w = .ok h' w from e1 _]
      simp only [Result.andThen_ok]
      rw [show (Instr.sliceBound (ρ x) h' (if (none : Option Value).isSome = true then BoundsCode.slice3C else BoundsCode.sliceB)).run P w = .ok l w from e2 _]; rfl

omit hev in
theorem add_off {b off n : Nat} : (Addr.mk b off none).add n = ⟨b, off + n, none⟩ := by
  unfold Addr.add; split
  · rename_i h; simp
  · rfl

theorem popSlice_ok {t : Nat} {x : Operand} {lo hi : Option Operand} {v : V} (h : popSlice P ev t x lo hi = some v) (w : World) :
    ∃ W, (Instr.sliceAt t (ρ x) (lo.map ρ) (hi.map ρ) none).run P w = .ok W w ∧ VR E v W := by
  obtain ⟨u, hu, h⟩ := ob_eq h
  have hr := hev hu
  cases u with
  | str l =>
    obtain ⟨d, hd, h⟩ := uT_eq h
    cases d <;> first | (cases h; done) | skip
    generalize hx : ρ x = X at hr; cases hr; rename_i S hS; subst hS
    rw [llen_eq, bytesN_length] at h
    obtain ⟨l, h', h1, h2, h3, h4⟩ := bnds_ok (P := P) (sl := false) hev h (Nat.le_refl _) (Nat.le_refl _)
    rw [fN_eq] at h1
    obtain ⟨r, hr, h1⟩ := ob_eq h1
    cases h1
    refine ⟨.string (S.extract l h'), ?_, .str ?_⟩
    · unfold Instr.sliceAt Instr.slice
      simp only [Sem.run_bind, run_underlying' hd, Result.andThen_ok]
      simp [h4]
    · obtain ⟨rfl, _⟩ := ltake_eq hr
      rw [ldrop_eq]
      simp [bytesN, List.extract_eq_take_drop]
  | sl id off len cap =>
    obtain ⟨e, he, h⟩ := ob_eq h
    obtain ⟨sz, hs, h⟩ := ob_eq h
    have hd := elT_ok he
    generalize hx : ρ x = X at hr; cases hr; rename_i b c hb
    obtain ⟨hlc, h⟩ := ck_eq h
    have hlc := Nat.le_of_ble_eq_true hlc
    · obtain ⟨l, h', h1, h2, h3, h4⟩ := bnds_ok (P := P) (sl := true) hev h (Nat.le_refl _) hlc
      refine ⟨.slice (if cap = l then some ⟨b, c.1 + off, none⟩ else some ⟨b, c.1 + (off + l * sz), none⟩) (h' - l) (cap - l), ?_, ?_⟩
      · unfold Instr.sliceAt Instr.slice
        simp only [Sem.run_bind, run_underlying' hd, Result.andThen_ok]
        simp [h4, run_sizeOf' hs, add_off, Nat.add_assoc]
      · by_cases hcl : cap = l
        · rw [show Nat.beq cap l = true from by rw [hcl]; exact Nat.beq_refl l] at h1
          cases h1
          have : h' = l := by omega
          rw [if_pos hcl, hcl, this, Nat.sub_self]; exact .sl hb
        · rw [show Nat.beq cap l = false from Bool.eq_false_iff.2 fun h => hcl (Nat.eq_of_beq_eq_true h)] at h1
          simp only [fN_eq] at h1
          cases h1
          rw [if_neg hcl]; exact .sl hb
  | sg id i sz len =>
    obtain ⟨e, he, h⟩ := ob_eq h
    obtain ⟨sz', hs, h⟩ := ob_eq h
    obtain ⟨hz, h5⟩ := ck_eq h
    have hz := Nat.eq_of_beq_eq_true hz; subst hz
    have hd := elT_ok he
    generalize hx : ρ x = X at hr; cases hr; rename_i b c hb hc
    obtain ⟨l, h', h1, h2, h3, h4⟩ := bnds_ok (P := P) (sl := true) (cap := c.2 - i) hev h5 (by omega) (Nat.le_refl _)
    refine ⟨.slice (if c.2 - i = l then some ⟨b, c.1 + i * sz, none⟩ else some ⟨b, c.1 + (i * sz + l * sz), none⟩) (h' - l) (c.2 - i - l), ?_, ?_⟩
    · unfold Instr.sliceAt Instr.slice
      simp only [Sem.run_bind, run_underlying' hd, Result.andThen_ok]
      simp [h4, run_sizeOf' hs, add_off, Nat.add_assoc]
    · by_cases hll : l < len
      · rw [show Nat.blt l len = true from Nat.ble_eq_true_of_le hll] at h1
        simp only [fN_eq] at h1
        cases h1
        rw [if_neg (by omega), ← Nat.add_mul, Nat.sub_sub]; exact .sg hb (by omega)
      · rw [show Nat.blt l len = false from Bool.eq_false_iff.2 fun h => hll (Nat.le_of_ble_eq_true h)] at h1
        cases h1
        have : h' - l = 0 := by omega
        rw [this]; split <;> exact .se
  | nils =>
    obtain ⟨e, he, h⟩ := ob_eq h
    obtain ⟨sz, hs, h⟩ := ob_eq h
    have hd := elT_ok he
    generalize hx : ρ x = X at hr; cases hr
    obtain ⟨l, h', h1, h2, h3, h4⟩ := bnds_ok (P := P) (sl := true) hev h (Nat.le_refl _) (Nat.le_refl _)
    cases h1
    have : h' = 0 := by omega
    have : l = 0 := by omega
    subst_vars
    refine ⟨.slice none 0 0, ?_, .nils⟩
    unfold Instr.sliceAt Instr.slice
    simp only [Sem.run_bind, run_underlying' hd, Result.andThen_ok]
    simp [h4, run_sizeOf' hs]
  | ptr id off =>
    obtain ⟨d, hd, h⟩ := uT_eq h
    cases d <;> first | (cases h; done) | skip
    rename_i n e
    obtain ⟨sz, hs, h⟩ := ob_eq h
    generalize hx : ρ x = X at hr; cases hr; rename_i b c hb
    obtain ⟨l, h', h1, h2, h3, h4⟩ := bnds_ok (P := P) (sl := false) hev h (Nat.le_refl _) (Nat.le_refl _)
    refine ⟨.slice (some (if n = l then ⟨b, c.1 + off, none⟩ else ⟨b, c.1 + (off + l * sz), none⟩)) (h' - l) (n - l), ?_, ?_⟩
    · unfold Instr.sliceAt
      simp only [Sem.run_bind, run_underlying' hd, Result.andThen_ok]
      simp [h4, run_sizeOf' hs, add_off, Instr.sureAddr, Nat.add_assoc]
    · by_cases hcl : n = l
      · rw [show Nat.beq n l = true from by rw [hcl]; exact Nat.beq_refl l] at h1
        cases h1
        have : h' = l := by omega
        rw [if_pos hcl, hcl, this, Nat.sub_self]; exact .sl hb
      · rw [show Nat.beq n l = false from Bool.eq_false_iff.2 fun h => hcl (Nat.eq_of_beq_eq_true h)] at h1
        simp only [fN_eq] at h1
        cases h1
        rw [if_neg hcl]; exact .sl hb
  | _ => cases h
end
end X
end Go.Proofs.YtnkjnclpakfgnaaGreatDoor
namespace Go.Proofs.YtnkjnclpakfgnaaGreatDoor
namespace X

theorem fold_set (off : Nat) : ∀ (l : List Value) (k : Nat) (cs : Array Value), off + k + l.length ≤ cs.size →
    ((l.zipIdx k).foldl (fun cs (x : Value × Nat) => cs.setIfInBounds (off + x.2) x.1) cs).toList = cs.toList.take (off + k) ++ (l ++ cs.toList.drop (off + k + l.length))
  | [], k, cs, _ => by simp
  | v :: l, k, cs, h => by
    simp only [List.length_cons] at h
    simp only [List.zipIdx_cons, List.foldl_cons]
    rw [fold_set off l (k + 1) (cs.setIfInBounds (off + k) v) (by simp; omega)]
    simp only [Array.toList_setIfInBounds, List.length_cons, List.cons_append]
    have hk : off + k < cs.toList.length := by simp; omega
    have e1 : (cs.toList.set (off + k) v).take (off + (k + 1)) = cs.toList.take (off + k) ++ [v] := by
      rw [← Nat.add_assoc, List.take_add_one]
      rw [List.take_set, List.set_eq_of_length_le (by simp; omega), List.getElem?_set_self hk]; rfl
    have e2 : (cs.toList.set (off + k) v).drop (off + (k + 1) + l.length) = cs.toList.drop (off + k + (l.length + 1)) := by
      rw [List.drop_set_of_lt (by omega)]; congr 1; omega
    rw [e1, e2]; simp

theorem fold_set' (off : Nat) (v : Value) (cs : Array Value) (h : off + v.cells.size ≤ cs.size) :
    (v.cells.zipIdx.foldl (fun cs (x : Value × Nat) => cs.setIfInBounds (off + x.2) x.1) cs).toList = cs.toList.take off ++ (v.cells.toList ++ cs.toList.drop (off + v.cells.size)) := by
  have := fold_set off v.cells.toList 0 cs (by simpa using h)
  rw [← Array.foldl_toList, Array.toList_zipIdx]
  simpa using this

section
variable (P : Program)
noncomputable def placesT (t : Nat) : Option (Nat → Option (Nat × Nat)) := uT P t fun d => match d with
  | .struct fs => ob (fs.toList.mapM fun f => (P.info? f.type).map fun i => (f.offset, i.size)) fun ps => some fun i => lget i ps
  | .array _ e => iT P e fun ie => some fun i => fN (i * ie.size) fun o => some (o, ie.size)
  | _ => none
end

section
variable {P : Program} {E : Env} {ev : Operand → Option V} {ρ : Operand → Value} (hev : ∀ {x v}, ev x = some v → VR E v (ρ x))
include hev
theorem fillV_ok (place : Nat → Option (Nat × Nat)) : ∀ {l : List (Nat × Operand)} {cs r : List V} {CS : Array Value}, fillV ev l place cs = some r → VRs E cs CS.toList →
    ∃ C, Instr.fill place CS (l.map fun (i, x) => (i, ρ x)) = some C ∧ VRs E r C.toList
  | [], cs, r, CS, h, hc => by cases h; exact ⟨CS, rfl, hc⟩
  | (i, x) :: l, cs, r, CS, h, hc => by
    obtain ⟨p, hp, h⟩ := ob_eq (o := place i) h
    obtain ⟨v, hv, h⟩ := ob_eq h
    obtain ⟨h1, h⟩ := ck_eq h
    obtain ⟨a, ha, h⟩ := ob_eq h
    obtain ⟨b, hb, h⟩ := ob_eq h
    obtain ⟨h2, h⟩ := ck_eq h
    obtain ⟨s, hs, h⟩ := ob_eq h
    have hr := cellsV_ok (hev hv)
    have h1 := Nat.eq_of_beq_eq_true h1
    have h2 := Nat.le_of_ble_eq_true h2
    rw [llen_eq] at h1 h2
    obtain ⟨rfl, h3⟩ := ltake_eq ha
    rw [lapp_eq] at hb; cases hb
    rw [lapp_eq] at hs; cases hs
    have hsz : (ρ x).cells.size = p.2 := by rw [← h1, hr.1]; simp
    have hcs : CS.size = cs.length := by rw [hc.1]; simp
    have hfit : p.1 + (ρ x).cells.size ≤ CS.size := by omega
    obtain ⟨C, hC, hC2⟩ := fillV_ok place (CS := (ρ x).cells.zipIdx.foldl (fun cs (y : Value × Nat) => cs.setIfInBounds (p.1 + y.2) y.1) CS) h (by
      rw [fold_set' _ _ _ hfit, hsz, ldrop_eq, ldrop_eq, List.drop_drop]
      exact (hc.take _).append (hr.append (hc.drop _)))
    refine ⟨C, ?_, hC2⟩
    simp only [List.map_cons, Instr.fill, hp]
    rw [if_neg (by simp [hsz]; omega)]
    exact hC
end

section
variable (P : Program) (ev : Operand → Option V)
noncomputable def popBuild (t : Nat) (parts : Array (Nat × Operand)) : Option V :=
  ob (placesT P t) fun ps => iT P t fun i => ob i.zero fun z => ob (ofScalars z.cells.toList) fun cs => ob (fillV ev parts.toList ps cs) fun r => some (.agg r)
end
section
variable {P : Program} {E : Env} {ev : Operand → Option V} {ρ : Operand → Value} (hev : ∀ {x v}, ev x = some v → VR E v (ρ x))
include hev
theorem popBuild_ok {t : Nat} {parts : Array (Nat × Operand)} {v : V} (h : popBuild P ev t parts = some v) (w : World) :
    ∃ W, (Instr.build t (parts.map fun (i, x) => (i, ρ x))).run P w = .ok W w ∧ VR E v W := by
  obtain ⟨ps, hps, h⟩ := ob_eq h
  obtain ⟨it, hit, h⟩ := iT_eq h
  obtain ⟨z, hz, h⟩ := ob_eq h
  obtain ⟨cs, hcs, h⟩ := ob_eq h
  obtain ⟨r, hr, h⟩ := ob_eq h
  cases h
  obtain ⟨d, hd, hps⟩ := uT_eq hps
  have hc := ofScalars_ok (E := E) hcs
  cases d <;> first | (cases hps; done) | skip
  · rename_i n e
    obtain ⟨ie, hie, hps⟩ := iT_eq hps
    cases hps
    obtain ⟨C, hC, hC2⟩ := fillV_ok hev (fun i => some (i * ie.size, ie.size)) (CS := z.cells) (by
      rw [← hr]; congr 1; funext i; rw [fN_eq]) hc
    refine ⟨.agg C, run_build w t _ C ?_, hC2.agg⟩
    simp only [Program.built, hit, hd, hz, hie]
    rw [← hC]; simp
  · rename_i fs
    obtain ⟨qs, hqs, hps⟩ := ob_eq hps
    cases hps
    have hqs : fs.toList.mapM (fun f => (P.info? f.type).map fun i => (f.offset, i.size)) = some qs := hqs
    obtain ⟨C, hC, hC2⟩ := fillV_ok hev (fun i => qs.toArray[i]?) (CS := z.cells) (by
      rw [← hr]; congr 1; funext i; rw [lget_eq]; simp) hc
    refine ⟨.agg C, run_build w t _ C ?_, hC2.agg⟩
    simp only [Program.built, hit, hd, hz, hqs]
    rw [← hC]; simp
end
end X
end Go.Proofs.YtnkjnclpakfgnaaGreatDoor
namespace Go.Proofs.YtnkjnclpakfgnaaGreatDoor
namespace X

section
variable (P : Program) (ev : Operand → Option V)
noncomputable def popFieldAddr (s : Nat) (x : Operand) (f : Nat) : Option V := ob (ev x) fun v => match v with
  | .ptr id off => ob (fldT P s f) fun fl => ob (szT P fl.type) fun n => (Nat.beq n 0).rec (fN (off + fl.offset) fun o => some (.ptr id o)) none
  | _ => none
noncomputable def popIndexAddr (t : Nat) (x i : Operand) : Option V := ob (ev x) fun v => ob (ev i) fun i => match i with
  | .int _ (.ofNat n) => match v with
    | .sl id off len _ => ob (elT P t) fun e => ob (szT P e) fun sz => ck (Nat.blt n len) (fN (off + n * sz) fun o => some (.ptr id o))
    | .sg id j sz' len => ob (elT P t) fun e => ob (szT P e) fun sz => ck (Nat.beq sz sz') (ck (Nat.blt n len) (fN (j * sz + n * sz) fun o => some (.ptr id o)))
    | .ptr id off => uT P t fun d => match d with
      | .array len e => ob (szT P e) fun sz => ck (Nat.blt n len) (fN (off + n * sz) fun o => some (.ptr id o))
      | _ => none
    | _ => none
  | _ => none
noncomputable def popField (t : Nat) (x : Operand) (f : Nat) : Option V := ob (ev x) fun v => match v with
  | .agg l => ob (fldT P t f) fun fl => partV P fl.type l fl.offset
  | _ => none
noncomputable def popIndex (t : Nat) (x i : Operand) : Option V := ob (ev x) fun v => ob (ev i) fun i => match i with
  | .int _ (.ofNat n) => uT P t fun d => match d, v with
    | .string, .str l => ob (lget n l) fun b => some (.int .u8 (.ofNat b))
    | .array len e, .agg l => ck (Nat.blt n len) (ob (szT P e) fun sz => partV P e l (n * sz))
    | _, _ => none
  | _ => none
noncomputable def popAssertV (asserted : Nat) (commaOk : Bool) (v : V) : Option V := match v with
  | .nili => ck commaOk (ob (zeroT P asserted) fun z => some (.tup [z, .bool false]))
  | .ifc t v => (Nat.beq t asserted).rec (ck commaOk (ob (zeroT P asserted) fun z => some (.tup [z, .bool false]))) (commaOk.rec (some v) (some (.tup [v, .bool true])))
  | _ => none
noncomputable def popAssert (x : Operand) (asserted : Nat) (commaOk : Bool) : Option V := ob (ev x) fun v => uT P asserted fun d => match d with
  | .interface _ => none
  | _ => popAssertV P asserted commaOk v
noncomputable def popLen (args : List Operand) (types : List Nat) : Option V := match args, types with
  | [x], [t] => ob (ev x) fun v => uT P t fun d => match d, v with
    | .string, .str l => fN (llen l) fun n => some (.int .i64 (.ofNat n))
    | .slice _, .sl _ _ n _ => some (.int .i64 (.ofNat n))
    | .slice _, .sg _ _ _ n => some (.int .i64 (.ofNat n))
    | .slice _, .se => some (.int .i64 (.ofNat 0))
    | .slice _, .bs _ n => some (.int .i64 (.ofNat n))
    | .slice _, .nils => some (.int .i64 (.ofNat 0))
    | _, _ => none
  | _, _ => none
noncomputable def popMM (mx : Bool) (args : List Operand) : Option V := match args with
  | [x, y] => ob (ev x) fun a => ob (ev y) fun b => match a, b with
    | .int k n, .int _ m => (ilt n m).rec (some (.int k (mx.rec m n))) (some (.int k (mx.rec n m)))
    | _, _ => none
  | _ => none
noncomputable def popConv (s d : Nat) (x : Operand) : Option V := ob (ev x) fun v => uT P s fun _ => uT P d fun d => match d, v with
  | .int k, .int _ n => fI (wr k n) fun r => some (.int k r)
  | .string, .str l => some (.str l)
  | _, _ => none
noncomputable def popUn (op : UnOp) (x : Operand) : Option V := ob (ev x) fun v => match op, v with
  | .not, .bool b => fB b fun b => some (.bool !b)
  | .neg, .int k n => fI (wr k (Int.sub 0 n)) fun r => some (.int k r)
  | _, _ => none
/-- A value that may be checked for nil. -/
def solid : V → Bool
  | .ptr _ _ | .fn _ _ _ | .ifc _ _ | .sl _ _ _ _ => true
  | _ => false

/-- The operations that leave the world alone. -/
noncomputable def pop (o : Op) : Option V := match o with
  | .move x | .assign x => ev x
  | .pick c a b => ob (ev c) fun c => match c with
    | .bool true => ev a
    | .bool false => ev b
    | _ => none
  | .nilCheck x => ob (ev x) fun v => ck (solid v) (some v)
  | .binOp op t x y _ => ob (ev x) fun a => ob (ev y) fun b => bop P op t x y a b
  | .unOp op _ x => popUn ev op x
  | .convert s d x => popConv P ev s d x
  | .makeInterface t x => ob (ev x) fun v => uT P t fun d => match d with
    | .interface _ => none
    | _ => some (.ifc t v)
  | .makeFunc fn first caps => match fn with
    | .func f => ob (evs ev first.toList) fun k => ob (evs ev caps.toList) fun l => some (.fn f k l)
    | _ => none
  | .slice t x lo hi mx => match mx with
    | none => popSlice P ev t x lo hi
    | some _ => none
  | .fieldAddr s x f => popFieldAddr P ev s x f
  | .field t x f => popField P ev t x f
  | .indexAddr t x i => popIndexAddr P ev t x i
  | .index t x i => popIndex P ev t x i
  | .typeAssert x _ asserted ok => popAssert P ev x asserted ok
  | .extract t i => ob (ev t) fun v => match v with
    | .tup l => lget i l
    | _ => none
  | .build t parts => popBuild P ev t parts
  | .call c => match c.callee with
    | .builtin .len => popLen P ev c.args.toList c.argTypes.toList
    | .builtin .max => popMM ev true c.args.toList
    | .builtin .min => popMM ev false c.args.toList
    | _ => none
  | _ => none
end

section
variable {P : Program} {E : Env} {ev : Operand → Option V} {ρ : Operand → Value} (hev : ∀ {x v}, ev x = some v → VR E v (ρ x))
include hev
theorem evs_ok : ∀ {l : List Operand} {r : List V}, evs ev l = some r → VRs E r (l.map ρ)
  | [], r, h => by cases h; exact .nil
  | x :: l, r, h => by
    obtain ⟨v, hv, h⟩ := ob_eq (o := ev x) h
    obtain ⟨s, hs, h⟩ := ob_eq (o := evs ev l) h
    cases h
    exact .cons (hev hv) (evs_ok hs)

theorem popFieldAddr_ok {s : Nat} {x : Operand} {f : Nat} {v : V} (h : popFieldAddr P ev s x f = some v) (w : World) : ∃ W, (Instr.fieldAt s (ρ x) f).run P w = .ok W w ∧ VR E v W := by
  obtain ⟨u, hu, h⟩ := ob_eq h
  have hr := hev hu
  cases u <;> first | (cases h; done) | skip
  rename_i id off
  obtain ⟨fl, hf, h⟩ := ob_eq h
  obtain ⟨n, hn, h⟩ := ob_eq h
  obtain ⟨fs, hd, hfs⟩ := fldT_ok hf
  generalize ρ x = X at hr; cases hr; rename_i b c hb
  cases hn0 : Nat.beq n 0 with
  | true => rw [hn0] at h; cases h
  | false =>
    rw [hn0] at h
    simp only [fN_eq] at h; cases h
    have : n ≠ 0 := fun e => by rw [e] at hn0; cases hn0
    exact ⟨_, by simp [Instr.fieldAt, run_underlying' hd, hfs, Instr.sureAddr, fieldPlace, run_sizeOf' hn, this, add_off, Nat.add_assoc], .ptr hb⟩

theorem popIndexAddr_ok {t : Nat} {x i : Operand} {v : V} (h : popIndexAddr P ev t x i = some v) (w : World) : ∃ W, (Instr.indexAt t (ρ x) (ρ i)).run P w = .ok W w ∧ VR E v W := by
  obtain ⟨u, hu, h⟩ := ob_eq h
  obtain ⟨j, hj, h⟩ := ob_eq h
  have hr := hev hu
  have hi := hev hj
  cases j <;> first | (cases h; done) | skip
  rename_i k n
  cases n <;> first | (cases h; done) | skip
  rename_i n
  generalize ρ i = I at hi; cases hi
  cases u <;> first | (cases h; done) | skip
  · rename_i id off
    obtain ⟨d, hd, h⟩ := uT_eq h
    cases d <;> first | (cases h; done) | skip
    obtain ⟨sz, hs, h⟩ := ob_eq h
    obtain ⟨hl, h⟩ := ck_eq h
    have hl := Nat.le_of_ble_eq_true hl
    simp only [fN_eq] at h; cases h
    generalize ρ x = X at hr; cases hr; rename_i b c hb
    refine ⟨_, ?_, .ptr hb⟩
    simp only [Instr.indexAt, asIntOf, Sem.run_bind, Sem.run_pure, Result.andThen_ok, run_underlying' hd, Instr.sureAddr, Int.ofNat_eq_natCast]
    rw [if_pos (by omega)]
    simp [run_sizeOf' hs, add_off, Nat.add_assoc]
  · rename_i id off len cap
    obtain ⟨e, he, h⟩ := ob_eq h
    obtain ⟨sz, hs, h⟩ := ob_eq h
    obtain ⟨hl, h⟩ := ck_eq h
    have hd := elT_ok he
    have hl := Nat.le_of_ble_eq_true hl
    simp only [fN_eq] at h; cases h
    generalize ρ x = X at hr; cases hr; rename_i b c hb
    refine ⟨_, ?_, .ptr hb⟩
    simp only [Instr.indexAt, asIntOf, Sem.run_bind, Sem.run_pure, Result.andThen_ok, run_underlying' hd, Int.ofNat_eq_natCast]
    rw [if_pos (by omega)]
    simp [run_sizeOf' hs, add_off, Nat.add_assoc]
  · rename_i id j sz' len
    obtain ⟨e, he, h⟩ := ob_eq h
    obtain ⟨sz, hs, h⟩ := ob_eq h
    obtain ⟨hz, h1⟩ := ck_eq h
    obtain ⟨hl, h2⟩ := ck_eq h1
    have hd := elT_ok he
    have hl := Nat.le_of_ble_eq_true hl
    have hz := Nat.eq_of_beq_eq_true hz
    simp only [fN_eq] at h2; cases h2
    generalize ρ x = X at hr; cases hr; rename_i b c hb hc
    refine ⟨_, ?_, .ptr hb⟩
    simp only [Instr.indexAt, asIntOf, Sem.run_bind, Sem.run_pure, Result.andThen_ok, run_underlying' hd, Int.ofNat_eq_natCast]
    rw [if_pos (by omega)]
    simp [run_sizeOf' hs, add_off, hz, Nat.add_assoc]

theorem popField_ok {t : Nat} {x : Operand} {f : Nat} {v : V} (h : popField P ev t x f = some v) (w : World) : ∃ W, (Instr.field t (ρ x) f).run P w = .ok W w ∧ VR E v W := by
  obtain ⟨u, hu, h⟩ := ob_eq h
  have hr := hev hu
  cases u <;> first | (cases h; done) | skip
  rename_i l
  obtain ⟨fl, hf, h⟩ := ob_eq h
  obtain ⟨fs, hd, hfs⟩ := fldT_ok hf
  obtain ⟨L, hL, hl⟩ := hr.agg_inv
  obtain ⟨W, hW, hv⟩ := partV_ok h hl
  exact ⟨W, by simp [Instr.field, run_underlying' hd, hfs, hL, asAgg, hW], hv⟩

omit hev in
theorem get_bytesN {S : ByteArray} {n b : Nat} (hb : (bytesN S)[n]? = some b) : ∃ x, S[n]? = some x ∧ x.toNat = b := by
  obtain ⟨⟨l⟩⟩ := S
  simp only [bytesN, List.getElem?_map, Option.map_eq_some_iff] at hb
  obtain ⟨x, h1, h2⟩ := hb
  have hlt := (List.getElem?_eq_some_iff.1 h1).1
  refine ⟨x, ?_, h2⟩
  rw [getElem?_pos (ByteArray.mk ⟨l⟩) n (by exact hlt)]
  exact congrArg some (List.getElem?_eq_some_iff.1 h1).2

theorem popIndex_ok {t : Nat} {x i : Operand} {v : V} (h : popIndex P ev t x i = some v) (w : World) : ∃ W, (Instr.index t (ρ x) (ρ i)).run P w = .ok W w ∧ VR E v W := by
  obtain ⟨u, hu, h⟩ := ob_eq h
  obtain ⟨j, hj, h⟩ := ob_eq h
  have hr := hev hu
  have hi := hev hj
  cases j <;> first | (cases h; done) | skip
  rename_i k n
  cases n <;> first | (cases h; done) | skip
  rename_i n
  generalize ρ i = I at hi; cases hi
  obtain ⟨d, hd, h⟩ := uT_eq h
  split at h
  · rename_i l
    obtain ⟨b, hb, h⟩ := ob_eq h
    cases h
    generalize ρ x = X at hr; cases hr; rename_i S hS; subst hS
    rw [lget_eq] at hb
    obtain ⟨x, hx, hb⟩ := get_bytesN hb
    refine ⟨.int .u8 (.ofNat b), ?_, .int _ _⟩
    simp only [Instr.index, asIntOf, Sem.run_bind, Sem.run_pure, Result.andThen_ok, run_underlying' hd, Int.ofNat_eq_natCast]
    rw [if_pos (by omega), Int.toNat_natCast, hx]
    simp [hb]
  · rename_i len e l
    obtain ⟨hl, h⟩ := ck_eq h
    obtain ⟨sz, hs, h⟩ := ob_eq h
    have hl := Nat.le_of_ble_eq_true hl
    obtain ⟨L, hL, hl2⟩ := hr.agg_inv
    obtain ⟨W, hW, hv⟩ := partV_ok h hl2
    refine ⟨W, ?_, hv⟩
    simp only [Instr.index, asIntOf, Sem.run_bind, Sem.run_pure, Result.andThen_ok, run_underlying' hd, hL, Int.ofNat_eq_natCast]
    rw [if_pos (by omega)]
    simp [run_sizeOf' hs, hW]
  · cases h

theorem popAssert_ok {x : Operand} {xt asserted : Nat} {ok : Bool} {v : V} (h : popAssert P ev x asserted ok = some v) (w : World) : ∃ W, (Instr.typeAssert (ρ x) xt asserted ok).run P w = .ok W w ∧ VR E v W := by
  obtain ⟨u, hu, h⟩ := ob_eq h
  obtain ⟨d, hd, h⟩ := uT_eq h
  have hr := hev hu
  have hni : ∀ ms, d ≠ .interface ms := fun ms e => by subst e; cases h
  have h' : popAssertV P asserted ok u = some v := by
    cases d <;> first | exact h | exact (hni _ rfl).elim
  unfold popAssertV at h'
  clear h
  have hz : ∀ {z : V}, ck ok (ob (zeroT P asserted) fun z => some (.tup [z, .bool false])) = some z → ok = true ∧ ∃ Z, (∀ w, (zeroValue asserted).run P w = .ok Z w) ∧ VR E z (.tuple #[Z, .bool false]) := fun {z} h => by
    obtain ⟨h1, h2⟩ := ck_eq h
    obtain ⟨z', hz, h2⟩ := ob_eq h2
    cases h2
    obtain ⟨Z, h3, h4⟩ := zeroT_ok (E := E) hz
    exact ⟨h1, Z, h3, VRs.tup (.cons h4 (.cons (.bool _) .nil))⟩
  cases u <;> dsimp only at h' <;> first | (cases h'; done) | skip
  · rename_i t' v'
    generalize ρ x = X at hr; cases hr; rename_i W hW
    cases ht : Nat.beq t' asserted with
    | false =>
      rw [ht] at h'
      obtain ⟨rfl, Z, h3, h4⟩ := hz h'
      have hne : t' ≠ asserted := fun e => by rw [e, Nat.beq_refl] at ht; cases ht
      refine ⟨_, ?_, h4⟩
      simp only [Instr.typeAssert, Sem.run_bind, run_underlying' hd, Result.andThen_ok]
      cases d <;> first | exact (hni _ rfl).elim | simp [hne, h3]
    | true =>
      rw [ht] at h'
      have := Nat.eq_of_beq_eq_true ht; subst this
      cases ok with
      | false =>
        cases h'
        refine ⟨W, ?_, hW⟩
        simp only [Instr.typeAssert, Sem.run_bind, run_underlying' hd, Result.andThen_ok]
        cases d <;> first | exact (hni _ rfl).elim | simp
      | true =>
        cases h'
        refine ⟨.tuple #[W, .bool true], ?_, VRs.tup (.cons hW (.cons (.bool _) .nil))⟩
        simp only [Instr.typeAssert, Sem.run_bind, run_underlying' hd, Result.andThen_ok]
        cases d <;> first | exact (hni _ rfl).elim | simp
  · generalize ρ x = X at hr; cases hr
    obtain ⟨rfl, Z, h3, h4⟩ := hz h'
    refine ⟨_, ?_, h4⟩
    simp only [Instr.typeAssert, Sem.run_bind, run_underlying' hd, Result.andThen_ok]
    cases d <;> first | exact (hni _ rfl).elim | simp [h3]

theorem popLen_ok {args : Array Operand} {types : Array Nat} {ty : Nat} {v : V} (h : popLen P ev args.toList types.toList = some v) (w : World) : ∃ W, (Builtin.len_ types ty (args.map ρ)).run P w = .ok W w ∧ VR E v W := by
  unfold popLen at h
  split at h
  · rename_i x t hx ht
    have ha : args = #[x] := by rw [← Array.toArray_toList (xs := args), hx]
    have htt : types = #[t] := by rw [← Array.toArray_toList (xs := types), ht]
    subst ha htt
    obtain ⟨u, hu, h⟩ := ob_eq h
    obtain ⟨d, hd, h⟩ := uT_eq h
    have hr := hev hu
    split at h <;> first | (cases h; done) | skip
    · simp only [fN_eq] at h; cases h
      generalize hx : ρ x = X at hr; cases hr; rename_i S hS; subst hS
      refine ⟨_, ?_, .int _ _⟩
      rw [llen_eq, bytesN_length]
      simp [Builtin.len_, run_underlying' hd, hx, goInt]
    all_goals
      cases h
      generalize hx : ρ x = X at hr; cases hr
      refine ⟨_, ?_, .int _ _⟩
      simp [Builtin.len_, run_underlying' hd, hx, goInt]
  · cases h

theorem popMM_ok {mx : Bool} {args : Array Operand} {types : Array Nat} {ty : Nat} {v : V} (h : popMM ev mx args.toList = some v) (w : World) :
    ∃ W, (if mx then Builtin.max_ types ty (args.map ρ) else Builtin.min_ types ty (args.map ρ)).run P w = .ok W w ∧ VR E v W := by
  unfold popMM at h
  split at h
  · rename_i x y hx
    have ha : args = #[x, y] := by rw [← Array.toArray_toList (xs := args), hx]
    subst ha
    obtain ⟨a, ha, h1⟩ := ob_eq h
    obtain ⟨b, hb, h2⟩ := ob_eq h1
    have hra := hev ha
    have hrb := hev hb
    clear h h1
    cases a <;> first | (cases h2; done) | skip
    cases b <;> first | (cases h2; done) | skip
    rename_i k n k' m
    have h : (ilt n m).rec (some (.int k (mx.rec m n))) (some (.int k (mx.rec n m))) = some v := h2
    generalize hxx : ρ x = A at hra; cases hra
    generalize hyy : ρ y = B at hrb; cases hrb
    rw [ilt_eq] at h
    refine ⟨.int k (if mx then (if n < m then m else n) else (if n < m then n else m)), ?_, ?_⟩
    · cases mx
      · simp [Builtin.min_, Builtin.min2, hxx, hyy]; split <;> split <;> omega
      · simp [Builtin.max_, Builtin.max2, hxx, hyy]
    · by_cases hnm : n < m
      · simp only [hnm, decide_true, Option.some.injEq] at h; cases mx <;> (cases h; simp only [hnm, ↓reduceIte, Bool.false_eq_true]; exact .int _ _)
      · simp only [hnm, decide_false, Option.some.injEq] at h; cases mx <;> (cases h; simp only [hnm, ↓reduceIte, Bool.false_eq_true]; exact .int _ _)
  · cases h

theorem popConv_ok {s d : Nat} {x : Operand} {v : V} (h : popConv P ev s d x = some v) (w : World) : ∃ W, (convert s d (ρ x)).run P w = .ok W w ∧ VR E v W := by
  obtain ⟨u, hu, h⟩ := ob_eq h
  obtain ⟨ds, hs, h⟩ := uT_eq h
  obtain ⟨dd, hd, h⟩ := uT_eq h
  have hr := hev hu
  split at h <;> first | (cases h; done) | skip
  · simp only [fI_eq, wr_eq] at h; cases h
    generalize ρ x = X at hr; cases hr
    refine ⟨_, ?_, .int _ _⟩
    simp only [convert, Sem.run_bind, run_underlying' hs, run_underlying' hd, Result.andThen_ok]
    cases ds <;> simp [Conv.intToInt]
  · cases h
    generalize ρ x = X at hr; cases hr; rename_i S hS
    refine ⟨_, ?_, .str hS⟩
    simp only [convert, Sem.run_bind, run_underlying' hs, run_underlying' hd, Result.andThen_ok]
    cases ds <;> simp

theorem popUn_ok {op : UnOp} {x : Operand} {v : V} (h : popUn ev op x = some v) (w : World) : ∃ W, (Op.unary op (ρ x)).run P w = .ok W w ∧ VR E v W := by
  obtain ⟨u, hu, h⟩ := ob_eq h
  have hr := hev hu
  split at h <;> first | (cases h; done) | skip
  · simp only [fB_eq] at h; cases h
    generalize ρ x = X at hr; cases hr
    exact ⟨_, by simp [Op.unary], .bool _⟩
  · simp only [fI_eq, wr_eq] at h; cases h
    generalize ρ x = X at hr; cases hr
    rename_i k n; exact ⟨.int k (k.wrap (0 - n)), by simp [Op.unary, Op.intArith], .int _ _⟩

theorem pop_ok {o : Oper} {v : V} (h : pop P ev o.op = some v) (w : World) : ∃ W, (execOp ρ o).run P w = .ok (.value W) w ∧ VR E v W := by
  have lift : ∀ {s : Sem Value}, (∃ W, s.run P w = .ok W w ∧ VR E v W) → ∃ W, (do pure (Next.value (← s)) : Sem Next).run P w = .ok (.value W) w ∧ VR E v W := fun ⟨W, h1, h2⟩ => ⟨W, by simp [h1], h2⟩
  obtain ⟨dst, op, ty, pos, after, guard⟩ := o
  cases op <;> dsimp only [pop] at h <;> first | (cases h; done) | skip
  case move x => exact ⟨_, rfl, hev h⟩
  case assign x => exact ⟨_, rfl, hev h⟩
  case pick c a b =>
    obtain ⟨u, hu, h1⟩ := ob_eq h
    have hr := hev hu
    split at h1 <;> first | (cases h1; done) | skip
    · generalize hc : ρ c = X at hr; cases hr
      exact ⟨ρ a, by simp [execOp, hc, asBool], hev h1⟩
    · generalize hc : ρ c = X at hr; cases hr
      exact ⟨ρ b, by simp [execOp, hc, asBool], hev h1⟩
  case nilCheck x =>
    obtain ⟨u, hu, h1⟩ := ob_eq h
    obtain ⟨h2, h3⟩ := ck_eq h1
    cases h3
    have hr := hev hu
    refine ⟨ρ x, ?_, hr⟩
    generalize hx : ρ x = X at hr
    cases hr <;> first | (cases h2; done) | simp [execOp, hx]
  case binOp op t x y yt =>
    obtain ⟨a, ha, h1⟩ := ob_eq h
    obtain ⟨b, hb, h2⟩ := ob_eq h1
    exact lift (bop_ok h2 (hev ha) (hev hb) w)
  case unOp op t x => exact lift (popUn_ok hev h w)
  case convert s d x => exact lift (popConv_ok hev h w)
  case makeInterface t x =>
    obtain ⟨a, ha, h1⟩ := ob_eq h
    obtain ⟨d, hd, h2⟩ := uT_eq h1
    refine lift ⟨.iface t (ρ x), ?_, ?_⟩
    · simp only [Instr.makeInterface, Sem.run_bind, run_underlying' hd, Result.andThen_ok]
      cases d <;> first | (cases h2; done) | rfl
    · cases d <;> first | (cases h2; done) | (cases h2; exact .ifc (hev ha))
  case makeFunc fn first caps =>
    cases fn <;> first | (cases h; done) | skip
    obtain ⟨k, hk, h2⟩ := ob_eq h
    obtain ⟨l, hl, h3⟩ := ob_eq h2
    cases h3
    exact lift ⟨.func (.func _) (first.map ρ) (caps.map ρ), by simp [Instr.makeFunc], VRs.fn (by simpa using evs_ok hev hk) (by simpa using evs_ok hev hl)⟩
  case slice t x lo hi mx =>
    cases mx <;> first | (cases h; done) | skip
    exact lift (popSlice_ok hev h w)
  case fieldAddr s x f => exact lift (popFieldAddr_ok hev h w)
  case field t x f => exact lift (popField_ok hev h w)
  case indexAddr t x i => exact lift (popIndexAddr_ok hev h w)
  case index t x i => exact lift (popIndex_ok hev h w)
  case typeAssert x t asserted ok => exact lift (popAssert_ok hev h w)
  case extract t i =>
    obtain ⟨a, ha, h1⟩ := ob_eq h
    have hr := hev ha
    cases a <;> first | (cases h1; done) | skip
    obtain ⟨L, hL, hl⟩ := hr.tup_inv
    have h1 : lget i _ = some v := h1
    rw [lget_eq] at h1
    obtain ⟨W, hW, hv⟩ := hl.get h1
    have : L[i]? = some W := by simpa using hW
    exact lift ⟨W, by simp [Instr.extract, hL, this], hv⟩
  case build t parts => exact lift (popBuild_ok hev h w)
  case call c =>
    obtain ⟨callee, args, types⟩ := c
    dsimp only at h
    split at h <;> first | (cases h; done) | skip
    · obtain ⟨W, h1, h2⟩ := popLen_ok hev (ty := ty) h w
      exact ⟨W, by simp [execOp, resolve, invoke, builtin, h1], h2⟩
    · obtain ⟨W, h1, h2⟩ := popMM_ok (P := P) (mx := true) (types := types) (ty := ty) hev h w
      rw [if_pos rfl] at h1
      exact ⟨W, by simp [execOp, resolve, invoke, builtin, h1], h2⟩
    · obtain ⟨W, h1, h2⟩ := popMM_ok (P := P) (mx := false) (types := types) (ty := ty) hev h w
      rw [if_neg (by simp)] at h1
      exact ⟨W, by simp [execOp, resolve, invoke, builtin, h1], h2⟩
end
end X
end Go.Proofs.YtnkjnclpakfgnaaGreatDoor
namespace Go.Proofs.YtnkjnclpakfgnaaGreatDoor
namespace X

/-! ## rows -/
def putL {α : Type} (l : List α) (k : Nat) (vs : List α) : List α := l.take k ++ (vs ++ l.drop (k + vs.length))
theorem putL_length {α : Type} {l vs : List α} {k : Nat} (h : k + vs.length ≤ l.length) : (putL l k vs).length = l.length := by
  simp [putL]; omega
theorem putL_drop {α : Type} {l vs : List α} {k c : Nat} (h : c + k + vs.length ≤ l.length) : (putL l (c + k) vs).drop c = putL (l.drop c) k vs := by
  unfold putL
  rw [List.drop_append_of_le_length (by simp; omega), List.drop_take, Nat.add_sub_cancel_left, List.drop_drop, Nat.add_assoc]
theorem putL_take {α : Type} {l vs : List α} {k n : Nat} (h : k + vs.length ≤ n) (hn : n ≤ l.length) : (putL l k vs).take n = putL (l.take n) k vs := by
  unfold putL
  have hk : (l.take k).length = k := by simp; omega
  rw [List.take_append, List.take_append, hk, List.take_of_length_le (l := vs) (by omega), List.take_of_length_le (l := l.take k) (by omega), List.take_take, Nat.min_eq_left (by omega : k ≤ n), List.drop_take, Nat.sub_sub]
theorem putL_ok {E : Env} {l cs : List V} {L vs : List Value} {k : Nat} (h : VRs E l L) (hc : VRs E cs vs) : VRs E (putL l k cs) (putL L k vs) := by
  unfold putL
  rw [hc.1]
  exact (h.take k).append (hc.append (h.drop _))

/-- cells laid into a row, if they fit -/
noncomputable def lput (off : Nat) (cs l : List V) : Option (List V) := match cs with
  | [v] => lset off l v
  | cs => ob (ltake off l) fun a => ob (lapp cs (ldrop (llen cs) (ldrop off l))) fun b => ck (Nat.ble (off + llen cs) (llen l)) (lapp a b)
theorem lput_ok {off : Nat} {cs l r : List V} (h : lput off cs l = some r) : r = putL l off cs ∧ off + cs.length ≤ l.length := by
  unfold lput at h
  split at h
  · rename_i v
    obtain ⟨rfl, h2⟩ := lset_eq h
    refine ⟨?_, h2⟩
    simp [putL, List.set_eq_take_append_cons_drop, h2]
  · obtain ⟨a, ha, h1⟩ := ob_eq h
    obtain ⟨b, hb, h2⟩ := ob_eq h1
    obtain ⟨h3, h4⟩ := ck_eq h2
    obtain ⟨rfl, _⟩ := ltake_eq ha
    rw [lapp_eq] at hb h4; cases hb; cases h4
    have h3 := Nat.le_of_ble_eq_true h3
    rw [llen_eq, llen_eq] at h3
    exact ⟨by simp [putL, ldrop_eq, llen_eq, List.drop_drop], h3⟩

noncomputable def lones (l : List V) : Bool := l.rec true (fun v _ ih => (one v).rec false ih)
theorem lones_ok {E : Env} : ∀ {l : List V} {L : List Value}, lones l = true → VRs E l L → ∀ W ∈ L, W.oneCell' = true
  | [], L, _, h, W, hW => by
    cases L with
    | nil => cases hW
    | cons _ _ => exact absurd h.1 (by simp)
  | v :: l, L, h, hl, W, hW => by
    obtain ⟨X, M, rfl, h1, h2⟩ := hl.head
    change Bool.rec (motive := fun _ => Bool) false (lones l) (one v) = true at h
    cases ho : one v with
    | false => rw [ho] at h; cases h
    | true =>
      rw [ho] at h
      rcases List.mem_cons.1 hW with rfl | hW
      · exact one_ok h1 ho
      · exact lones_ok h h2 W hW

def rowV : O → Option (List V)
  | .cells _ l => some l
  | .grow _ _ l => some l
  | _ => none
def rowSet : O → List V → Option O
  | .cells t _, l => some (.cells t l)
  | .grow t sz _, l => some (.grow t sz l)
  | _, _ => none
theorem rowV_live {o : O} {l : List V} (h : rowV o = some l) : o ≠ .dead := by rintro rfl; cases h

section
variable {E : Env}
theorem OR.row {o : O} {l : List V} {c : Nat × Nat} {ob : Obj} (h : rowV o = some l) (ho : OR E o c ob) :
    ∃ L t, ob = .cells L t ∧ VRs E l ((L.toList.drop c.1).take l.length) ∧ c.1 + l.length ≤ L.size := by
  cases ho with
  | cells h0 x =>
    cases h
    rename_i t L
    refine ⟨L, t, rfl, ?_, by rw [h0, x.1]; simp⟩
    rw [h0, List.drop_zero, List.take_of_length_le (by rw [x.1]; exact Nat.le_refl _)]; exact x
  | grow _ hs hl x _ => cases h; exact ⟨_, _, rfl, x, by omega⟩
  | iter _ _ => cases h
  | map _ _ _ _ => cases h
  | pmap _ _ _ _ => cases h
theorem OR.rowSet {o o' : O} {l l' : List V} {c : Nat × Nat} {L : Array Value} {t : Nat} (h : rowV o = some l) (hs : rowSet o l' = some o') (ho : OR E o c (.cells L t)) {off : Nat} {cs : List V} {vs : List Value}
    (hp : l' = putL l off cs) (hfit : off + cs.length ≤ l.length) (hc : VRs E cs vs) : OR E o' c (.cells (putL L.toList (c.1 + off) vs).toArray t) := by
  obtain ⟨L2, t2, e, h1, h2⟩ := ho.row h
  cases e
  have hlen : vs.length = cs.length := hc.1.symm
  have key : VRs E l' (((putL L.toList (c.1 + off) vs).drop c.1).take l'.length) := by
    have hl' : l'.length = l.length := by rw [hp]; exact putL_length hfit
    rw [hl', putL_drop (by simp; omega), putL_take (by omega) (by simp; omega), hp]
    exact putL_ok h1 hc
  have hsz : (putL L.toList (c.1 + off) vs).length = L.size := by
    rw [putL_length (by simp; omega)]; simp
  cases ho with
  | cells h0 x =>
    cases h; cases hs
    refine .cells h0 ?_
    have hl' : l'.length = L.size := by rw [hp, putL_length hfit, x.1]; simp
    rw [h0, List.drop_zero, List.take_of_length_le (by rw [hl']; rw [h0] at hsz; exact Nat.le_of_eq hsz)] at key
    rw [h0]; simpa using key
  | grow h0 hs' hl x hm =>
    cases h; cases hs
    exact .grow h0 (by simpa [hsz] using hs') (by rw [hp, putL_length hfit]; exact hl) (by simpa using key) hm
end

/-! ## the state -/
structure S (M : Type) where
  H : T O
  nx : Nat
  m : M
/-- A new block. -/
noncomputable def newB {M : Type} (s : S M) (o : O) (v : V) : Option (V × S M) := ob (hset s.H s.nx o) fun H => fN (s.nx + 1) fun n => some (v, ⟨H, n, s.m⟩)

section
variable (P : Program) {M : Type} (ev : Operand → Option V) (s : S M)
noncomputable def eAlloc (t : Nat) : Option (V × S M) := ob (zeroT P t) fun z => newB s (.cells t (cellsV z)) (.ptr s.nx 0)
noncomputable def eBox (t : Nat) (x : Operand) : Option (V × S M) := ob (ev x) fun v => newB s (.cells t (cellsV v)) (.ptr s.nx 0)
noncomputable def cellsAt (id off n : Nat) : Option (List V) := ob (hget s.H id) fun o => ob (rowV o) fun l => ltake n (ldrop off l)
noncomputable def eLoad (t : Nat) (x : Operand) : Option V := ob (ev x) fun v => match v with
  | .ptr id off => ob (hget s.H id) fun o => ob (rowV o) fun l => partV P t l off
  | _ => none
noncomputable def ePut (id off : Nat) (cs : List V) : Option (S M) := ob (hget s.H id) fun o => ob (rowV o) fun l => ob (lput off cs l) fun l' => ob (rowSet o l') fun o' => ob (hset s.H id o') fun H => some ⟨H, s.nx, s.m⟩
noncomputable def eStore (t : Nat) (x y : Operand) : Option (V × S M) := ob (ev x) fun v => match v with
  | .ptr id off => ob (ev y) fun u => ob (szT P t) fun n => ck (Nat.beq (llen (cellsV u)) n) (ck (lones (cellsV u)) (ob (ePut s id off (cellsV u)) fun s => some (.tup [], s)))
  | _ => none
end

/-- The operation runs, and what comes of it is what was said. -/
def Good (I : Inv) (K : Keep) (P : Program) (E : Env) (w : World) (v : V) (s' : S I.M) (x : Sem Next) : Prop :=
  ∃ N w' W E', x.run P w = .ok N w' ∧ (N = .value W ∨ (N = .skip ∧ W = undef)) ∧ E.le E' ∧ VR E' v W ∧ Sim I K E' s'.H s'.nx s'.m w'

section
variable {P : Program} {I : Inv} {K : Keep} {E : Env} {w : World} {s : S I.M} {ev : Operand → Option V} {ρ : Operand → Value} (hev : ∀ {x v}, ev x = some v → VR E v (ρ x)) (hS : Sim I K E s.H s.nx s.m w)
include hS
theorem newB_ok {o : O} {v : V} {v' : V} {s' : S I.M} {ob : Obj} {c : Nat × Nat} (h : newB s o v = some (v', s')) (ho : OR (E.bind s.nx w.heap.size c) o c ob) :
    v' = v ∧ E.le (E.bind s.nx w.heap.size c) ∧ Sim I K (E.bind s.nx w.heap.size c) s'.H s'.nx s'.m { w with heap := w.heap.push ob } := by
  obtain ⟨H, hH, h⟩ := ob_eq h
  rw [fN_eq] at h; cases h
  obtain ⟨h1, h2⟩ := hS.alloc hH ho
  exact ⟨rfl, h1, h2⟩

theorem eAlloc_ok {t : Nat} {v : V} {s' : S I.M} (h : eAlloc P s t = some (v, s')) : Good I K P E w v s' (do pure (.value (← Instr.alloc t true (.tuple #[])))) := by
  obtain ⟨z, hz, h⟩ := ob_eq h
  obtain ⟨Z, h1, h2⟩ := zeroT_ok (E := E) hz
  obtain ⟨rfl, h4, h5⟩ := newB_ok hS h (c := (0, 0)) (.cells (L := Z.cells) rfl ((cellsV_ok h2).mono (Env.le_bind (hS.fresh _ (Nat.le_refl _)) (Nat.le_of_eq hS.top))))
  exact ⟨_, _, _, _, by simp [Instr.alloc, h1, newVar, newRow], .inl rfl, h4, .ptr (Env.bind_self ..), h5⟩

include hev in
theorem eBox_ok {t : Nat} {x : Operand} {v : V} {s' : S I.M} (h : eBox ev s t x = some (v, s')) : Good I K P E w v s' (do pure (.value (← Instr.box t (ρ x)))) := by
  obtain ⟨z, hz, h⟩ := ob_eq h
  obtain ⟨rfl, h4, h5⟩ := newB_ok hS h (c := (0, 0)) (.cells (L := (ρ x).cells) rfl ((cellsV_ok (hev hz)).mono (Env.le_bind (hS.fresh _ (Nat.le_refl _)) (Nat.le_of_eq hS.top))))
  exact ⟨_, _, _, _, by simp [Instr.box, newVar, newRow], .inl rfl, h4, .ptr (Env.bind_self ..), h5⟩

/-- What a name's row is. -/
theorem rowAt_ok {id b : Nat} {c : Nat × Nat} {o : O} {l : List V} (h : hget s.H id = some o) (hr : rowV o = some l) (hb : E.blk id = some (b, c)) :
    ∃ L t, w.heap[b]? = some (.cells L t) ∧ OR E o c (.cells L t) ∧ VRs E l ((L.toList.drop c.1).take l.length) ∧ c.1 + l.length ≤ L.size := by
  obtain ⟨ob, h1, h2⟩ := hS.at ⟨h, rowV_live hr⟩ hb
  obtain ⟨L, t, rfl, h3, h4⟩ := h2.row hr
  exact ⟨L, t, h1, h2, h3, h4⟩

theorem cellsAt_ok {id b off n : Nat} {c : Nat × Nat} {r : List V} (h : cellsAt s id off n = some r) (hb : E.blk id = some (b, c)) :
    ∃ cs : List Value, VRs E r cs ∧ cs.length = n ∧ ∀ j v, cs[j]? = some v → w.cell? ⟨b, c.1 + off + j, none⟩ = some v := by
  obtain ⟨o, ho, h⟩ := ob_eq h
  obtain ⟨l, hl, h⟩ := ob_eq h
  obtain ⟨rfl, h2⟩ := ltake_eq h
  rw [ldrop_eq] at h2 ⊢
  obtain ⟨L, t, h3, _, h5, h6⟩ := rowAt_ok hS ho hl hb
  refine ⟨(((L.toList.drop c.1).take l.length).drop off).take n, (h5.drop off).take n, ?_, fun j v hj => ?_⟩
  · simp at h2 ⊢; omega
  · rw [List.getElem?_take] at hj
    split at hj <;> first | (cases hj; done) | skip
    rw [List.getElem?_drop, List.getElem?_take] at hj
    split at hj <;> first | (cases hj; done) | skip
    rw [List.getElem?_drop] at hj
    simp only [World.cell?, h3]
    rw [if_neg (by simp), Nat.add_assoc]
    simpa using hj

include hev in
theorem eLoad_ok {t : Nat} {x : Operand} {v : V} (h : eLoad P ev s t x = some v) : ∃ W, (Instr.loadAt t (ρ x)).run P w = .ok W w ∧ VR E v W := by
  obtain ⟨u, hu, h⟩ := ob_eq h
  have hr := hev hu
  cases u <;> first | (cases h; done) | skip
  rename_i id off
  obtain ⟨o, ho, h⟩ := ob_eq h
  obtain ⟨l, hl, h⟩ := ob_eq h
  generalize ρ x = X at hr; cases hr; rename_i b c hb
  obtain ⟨ba, hba, h⟩ := ob_eq h
  cases ba with
  | false =>
    have h : lget off l = some v := h
    have h' : cellsAt s id off 1 = some [v] := by
      unfold cellsAt
      rw [ho]; show (ob (rowV o) fun l => ltake 1 (ldrop off l)) = _
      rw [hl]; show ltake 1 (ldrop off l) = _
      rw [lget_eq] at h
      obtain ⟨h1, h2⟩ := List.getElem?_eq_some_iff.1 h
      rw [ldrop_eq, List.drop_eq_getElem_cons h1, h2]; rfl
    obtain ⟨cs, h1, h2, h3⟩ := cellsAt_ok hS h' hb
    obtain ⟨W, h4, h5⟩ := h1.get (i := 0) rfl
    have hc := h3 0 W h4
    refine ⟨W, ?_, h5⟩
    simp only [Nat.add_zero] at hc
    simp [Instr.loadAt, Instr.sureAddr, loadVar, run_isAgg' hba, hc]
  | true =>
    have h : (ob (szT P t) fun n => ob (ltake n (ldrop off l)) fun r => some (.agg r)) = some v := h
    obtain ⟨n, hn, h⟩ := ob_eq h
    obtain ⟨r, hr, h⟩ := ob_eq h
    cases h
    have h' : cellsAt s id off n = some r := by
      unfold cellsAt
      rw [ho]; show (ob (rowV o) fun l => ltake n (ldrop off l)) = _
      rw [hl]; exact hr
    obtain ⟨cs, h1, h2, h3⟩ := cellsAt_ok hS h' hb
    subst h2
    refine ⟨.agg cs.toArray, ?_, VRs.agg (by simpa using h1)⟩
    have := run_loadCells_list (P := P) w ⟨b, c.1 + off, none⟩ cs (fun j v hj => by rw [add_off]; exact h3 j v hj)
    simp [Instr.loadAt, Instr.sureAddr, loadVar, run_isAgg' hba, run_sizeOf' hn, this]

theorem ePut_ok {id b off : Nat} {c : Nat × Nat} {cs : List V} {vs : List Value} {s' : S I.M} (h : ePut s id off cs = some s') (hb : E.blk id = some (b, c)) (hc : VRs E cs vs) (h1 : lones cs = true) :
    ∃ w', (storeCells ⟨b, c.1 + off, none⟩ vs).run P w = .ok () w' ∧ Sim I K E s'.H s'.nx s'.m w' := by
  obtain ⟨o, ho, h⟩ := ob_eq h
  obtain ⟨l, hl, h⟩ := ob_eq h
  obtain ⟨l', hl', h⟩ := ob_eq h
  obtain ⟨o', ho', h⟩ := ob_eq h
  obtain ⟨H, hH, h⟩ := ob_eq h
  cases h
  obtain ⟨L, t, h3, h4, h5, h6⟩ := rowAt_ok hS ho hl hb
  obtain ⟨hp, hfit⟩ := lput_ok hl'
  have hlen : vs.length = cs.length := hc.1.symm
  have hrun := run_storeCells_at P b (c.1 + off) t vs 0 L w h3 (by omega) (lones_ok h1 hc)
  refine ⟨_, hrun, ?_⟩
  simp only [Nat.add_zero]
  have hnew := h4.rowSet hl ho' hp hfit hc
  refine hS.put ⟨ho, rowV_live hl⟩ hb hH hnew rfl rfl rfl (by simp) ?_ (fun j hj => setRow_other w b j _ hj)
  rw [setRow_heap w b L _ t _ h3]
  simp [putL]

include hev in
theorem eStore_ok {t : Nat} {x y : Operand} {v : V} {s' : S I.M} (h : eStore P ev s t x y = some (v, s')) : Good I K P E w v s' (do Instr.storeAt t (ρ x) (ρ y); pure .skip) := by
  obtain ⟨u, hu, h⟩ := ob_eq h
  have hr := hev hu
  cases u <;> first | (cases h; done) | skip
  rename_i id off
  obtain ⟨z, hz, h⟩ := ob_eq h
  obtain ⟨n, hn, h⟩ := ob_eq h
  obtain ⟨h1, h⟩ := ck_eq h
  obtain ⟨h2, h⟩ := ck_eq h
  obtain ⟨s2, hs2, h⟩ := ob_eq h
  cases h
  generalize ρ x = X at hr; cases hr; rename_i b c hb
  have hc := cellsV_ok (hev hz)
  have h1 := Nat.eq_of_beq_eq_true h1
  rw [llen_eq, hc.1] at h1
  obtain ⟨w', h3, h4⟩ := ePut_ok (P := P) hS hs2 hb hc h2
  have h1 : (ρ y).cells.size = n := by simpa using h1
  refine ⟨.skip, w', undef, E, ?_, .inr ⟨rfl, rfl⟩, .refl E, VRs.tup .nil, h4⟩
  simp [Instr.storeAt, Instr.sureAddr, storeVar, run_sizeOf' hn, h1, h3]
end
end X
end Go.Proofs.YtnkjnclpakfgnaaGreatDoor
