/- The executor, 9: literal rows, append, ranges over strings. · The executor, 10: ranges over strings, make, and one operation. · The executor, 10b: maps by numbers. · The executor, 11: one operation, calls among them. No conditions. -/
import Derived.Test.YtnkjnclpakfgnaaGreatDoorMa3
import Derived.Deep.AppendSrc
import Derived.Test.YtnkjnclpakfgnaaGreatDoorMa1
namespace Go.Proofs.YtnkjnclpakfgnaaGreatDoor
namespace X

section
variable (P : Program) {M : Type} (ev : Operand → Option V) (s : S M)
/-- The parts of a literal row, from k on, each of sz cells. -/
noncomputable def flat (sz : Nat) (l : List (Nat × Operand)) : Nat → Option (List V) := l.rec (fun _ => some []) (fun x _ ih k => ck (Nat.beq x.1 k) (ob (ev x.2) fun v => ck (Nat.beq (llen (cellsV v)) sz) (ob (ih (k + 1)) fun r => lapp (cellsV v) r)))
noncomputable def eBuildSlice (t len : Nat) (parts : Array (Nat × Operand)) : Option (V × S M) := ob (elT P t) fun e => ob (szT P e) fun sz => ob (zeroT P e) fun _ => ck (Nat.blt 0 sz) (ck (Nat.ble (len * sz) 16777216)
  (ck (Nat.beq (llen parts.toList) len) (ob (flat ev sz parts.toList 0) fun cs => newB s (.cells e cs) (.sl s.nx 0 len len))))
/-- A literal row's cells, and what they are. -/
noncomputable def bsC (t len : Nat) (parts : Array (Nat × Operand)) : Option (Nat × List V) := ob (elT P t) fun e => ob (szT P e) fun sz => ob (zeroT P e) fun _ => ck (Nat.blt 0 sz) (ck (Nat.ble (len * sz) 16777216)
  (ck (Nat.beq (llen parts.toList) len) (ob (flat ev sz parts.toList 0) fun cs => some (e, cs))))
end

section
variable {P : Program} {I : Inv} {K : Keep} {E : Env} {w : World} {s : S I.M} {ev : Operand → Option V} {ρ : Operand → Value} (hev : ∀ {x v}, ev x = some v → VR E v (ρ x)) (hS : Sim I K E s.H s.nx s.m w)
include hev in
theorem flat_ok {sz : Nat} : ∀ {l : List (Nat × Operand)} {k : Nat} {r : List V}, flat ev sz l k = some r → ∃ vs : List Value, l.map (fun x => (x.1, ρ x.2)) = (vs.zipIdx k).map (fun x => (x.2, x.1)) ∧ (∀ v ∈ vs, v.cells.size = sz) ∧ vs.length = l.length ∧ VRs E r (vs.flatMap fun v => v.cells.toList)
  | [], k, r, h => by cases h; exact ⟨[], rfl, by simp, rfl, .nil⟩
  | (i, x) :: l, k, r, h => by
    obtain ⟨h1, h⟩ := ck_eq (b := Nat.beq i k) h
    obtain ⟨v, hv, h⟩ := ob_eq h
    obtain ⟨h2, h⟩ := ck_eq h
    obtain ⟨r', hr', h⟩ := ob_eq (o := flat ev sz l (k + 1)) h
    rw [lapp_eq] at h; cases h
    obtain ⟨vs, e1, e2, e3, e4⟩ := flat_ok hr'
    have h1 := Nat.eq_of_beq_eq_true h1
    have h2 := Nat.eq_of_beq_eq_true h2
    have hc := cellsV_ok (hev hv)
    rw [llen_eq, hc.1] at h2
    refine ⟨ρ x :: vs, by simp [h1, e1], ?_, by simp [e3], by simpa using hc.append e4⟩
    intro v hv
    rcases List.mem_cons.1 hv with rfl | hv
    · simpa using h2
    · exact e2 v hv

include hev in
theorem bsC_ok {t len e : Nat} {parts : Array (Nat × Operand)} {cs : List V} (h : bsC P ev t len parts = some (e, cs)) : ∃ L : Array Value, VRs E cs L.toList ∧
    ∀ w, (Instr.buildSlice t len (parts.map fun (i, x) => (i, ρ x))).run P w = .ok (.slice (some ⟨w.heap.size, 0, none⟩) len len) (w.alloc (.cells L e)) := by
  obtain ⟨e', he, h⟩ := ob_eq h
  obtain ⟨sz, hsz, h⟩ := ob_eq h
  obtain ⟨z0, hz0, h⟩ := ob_eq h
  obtain ⟨h1, h⟩ := ck_eq h
  obtain ⟨h2, h⟩ := ck_eq h
  obtain ⟨h3, h⟩ := ck_eq h
  obtain ⟨cs', hcs, h⟩ := ob_eq h
  cases h
  have h1 := Nat.le_of_ble_eq_true h1
  have h2 := Nat.le_of_ble_eq_true h2
  have h3 := Nat.eq_of_beq_eq_true h3
  rw [llen_eq] at h3
  obtain ⟨vs, e1, e2, e3, e4⟩ := flat_ok hev hcs
  obtain ⟨ie, hie, hz⟩ := iT_eq hz0
  obtain ⟨z, hz, _⟩ := ob_eq hz
  obtain ⟨ie', hie', hsize⟩ := szT_ok hsz
  rw [hie] at hie'; cases hie'
  have hd := elT_ok he
  have hparts : (parts.map fun (i, x) => (i, ρ x)).toList = (vs.zipIdx 0).map (fun x => (x.2, x.1)) := by rw [← e1]; simp
  have hl : vs.length = len := by rw [e3, h3]
  refine ⟨(vs.flatMap fun v => v.cells.toList).toArray, by simpa using e4, fun w => ?_⟩
  by_cases h0 : len * ie.size = 0
  · have hl0 : len = 0 := by rcases Nat.mul_eq_zero.1 h0 with h | h <;> omega
    subst hl0
    have hvs : vs = [] := List.eq_nil_of_length_eq_zero hl
    subst hvs
    have hp0 : (parts.map fun (i, x) => (i, ρ x)) = #[] := by
      apply Array.toList_inj.1; rw [hparts]; rfl
    rw [hp0]
    simp [Instr.buildSlice, run_underlying' hd, sizeOf, typeInfo, hie, Instr.fill, newRow]
    congr 2
    apply Array.ext'; simp
  · have hfill := Great.fill_whole (s := ie.size) (by omega) vs ((Array.range (len * ie.size)).map (z.cells[· % z.cells.size]!)) (by rw [hsize]; exact e2) (by simp [hl])
    exact run_buildSlice w t e len _ (vs.flatMap fun v => v.cells.toList).toArray ie z hd hie hz (by rw [hsize]; omega) h0 (by rw [hparts]; exact hfill)
include hev hS in
theorem eBuildSlice_ok {t len : Nat} {parts : Array (Nat × Operand)} {v : V} {s' : S I.M} (h : eBuildSlice P ev s t len parts = some (v, s')) : Good I K P E w v s' (do pure (.value (← Instr.buildSlice t len (parts.map fun (i, x) => (i, ρ x))))) := by
  obtain ⟨e, he, h⟩ := ob_eq h
  obtain ⟨sz, hsz, h⟩ := ob_eq h
  obtain ⟨z0, hz0, h⟩ := ob_eq h
  obtain ⟨h1, h⟩ := ck_eq h
  obtain ⟨h2, h⟩ := ck_eq h
  obtain ⟨h3, h⟩ := ck_eq h
  obtain ⟨cs, hcs, h⟩ := ob_eq h
  have h1 := Nat.le_of_ble_eq_true h1
  have h2 := Nat.le_of_ble_eq_true h2
  have h3 := Nat.eq_of_beq_eq_true h3
  rw [llen_eq] at h3
  obtain ⟨vs, e1, e2, e3, e4⟩ := flat_ok hev hcs
  obtain ⟨ie, hie, hz⟩ := iT_eq hz0
  obtain ⟨z, hz, _⟩ := ob_eq hz
  obtain ⟨ie', hie', hsize⟩ := szT_ok hsz
  rw [hie] at hie'; cases hie'
  have hd := elT_ok he
  obtain ⟨rfl, h4, h5⟩ := newB_ok hS h (c := (0, 0)) (ob := .cells (vs.flatMap fun v => v.cells.toList).toArray e) (.cells rfl (by simpa using e4.mono (Env.le_bind (hS.fresh _ (Nat.le_refl _)) (Nat.le_of_eq hS.top))))
  have hparts : (parts.map fun (i, x) => (i, ρ x)).toList = (vs.zipIdx 0).map (fun x => (x.2, x.1)) := by rw [← e1]; simp
  have hl : vs.length = len := by rw [e3, h3]
  refine ⟨_, _, _, _, ?_, .inl rfl, h4, .sl (Env.bind_self ..), h5⟩
  by_cases h0 : len * ie.size = 0
  · have hl0 : len = 0 := by rcases Nat.mul_eq_zero.1 h0 with h | h <;> omega
    subst hl0
    have hvs : vs = [] := List.eq_nil_of_length_eq_zero hl
    subst hvs
    have hp0 : (parts.map fun (i, x) => (i, ρ x)) = #[] := by
      apply Array.toList_inj.1; rw [hparts]; rfl
    rw [hp0]
    simp [Instr.buildSlice, run_underlying' hd, sizeOf, typeInfo, hie, Instr.fill, newRow]
    congr 2
    apply Array.ext'; simp
  · have hfill := Great.fill_whole (s := ie.size) (by omega) vs ((Array.range (len * ie.size)).map (z.cells[· % z.cells.size]!)) (by rw [hsize]; exact e2) (by simp [hl])
    rw [Sem.run_bind, run_buildSlice w t e len _ (vs.flatMap fun v => v.cells.toList).toArray ie z hd hie hz (by rw [hsize]; omega) h0 (by rw [hparts]; exact hfill)]
    rfl

/-! ## append -/
end
section
variable (P : Program) {M : Type} (ev : Operand → Option V) (s : S M)
/-- The cells of what is appended. -/
noncomputable def srcCells (_e sz : Nat) (x : V) : Option (Nat × List V) := match x with
  | .nils => some (0, [])
  | .se => some (0, [])
  | .sl id off len _ => ob (cellsAt s id off (len * sz)) fun r => some (len, r)
  | .sg id i sz' len => ck (Nat.beq sz sz') (ob (cellsAt s id (i * sz) (len * sz)) fun r => some (len, r))
  | _ => none
/-- A row that grew. -/
noncomputable def growTo (e sz n : Nat) (cs : List V) : Option (V × S M) := newB s (.grow e sz cs) (.sg s.nx 0 sz n)
noncomputable def eAppend (args : List Operand) (types : List Nat) : Option (V × S M) := match args, types with
  | [x, y], [t, t'] => ob (ev x) fun a => ob (ev y) fun b => ob (elT P t) fun e => ob (elT P t') fun _ => ob (szT P e) fun sz => ob (zeroT P e) fun z => iT P e fun ie =>
    ck (Nat.blt ie.bytes 65536) (ck (Nat.beq (llen (cellsV z)) sz) (ob (srcCells s e sz b) fun nc => ck (lones nc.2) (match a with
      | .nils => (Nat.beq nc.1 0).rec (ck (Nat.blt nc.1 65536) (growTo s e sz nc.1 nc.2)) (some (.nils, s))
      | .sl id off len cap => fN (len + nc.1) fun n => ck (Nat.blt n 65536) ((Nat.ble n cap).rec
          (ob (cellsAt s id off (len * sz)) fun old => ob (lapp old nc.2) fun cs => growTo s e sz n cs)
          (fN (off + len * sz) fun o => (Nat.beq nc.1 0).rec (ob (ePut s id o nc.2) fun s => some (.sl id off n cap, s)) (some (.sl id off len cap, s))))
      | .sg id i sz' len => fN (len + nc.1) fun n => ck (Nat.beq sz sz') (ck (Nat.blt n 65536) (
          (Nat.beq nc.1 0).rec (ob (hget s.H id) fun o => match o with
            | .grow t sz'' l => ck (Nat.beq i 0) (ck (Nat.beq t e) (ck (Nat.beq sz'' sz) (ob (ltake (len * sz) (ldrop (i * sz) l)) fun old => ob (lapp old nc.2) fun cs =>
               ob (hset s.H id .dead) fun H1 => ob (hset H1 s.nx (.grow e sz cs)) fun H2 => fN (s.nx + 1) fun nx => some (.sg s.nx 0 sz n, ⟨H2, nx, s.m⟩))))
            | _ => none) (some (.sg id i sz len, s))))
      | _ => none)))
  | _, _ => none
end
section
variable {P : Program} {I : Inv} {K : Keep} {E : Env} {w : World} {s : S I.M} {ev : Operand → Option V} {ρ : Operand → Value} (hev : ∀ {x v}, ev x = some v → VR E v (ρ x)) (hS : Sim I K E s.H s.nx s.m w)
include hS
theorem srcCells_ok {e sz n t' e' : Nat} {x : V} {X : Value} {r : List V} (h : srcCells s e sz x = some (n, r)) (hx : VR E x X) (ht : P.underlying t' = some (.slice e')) (h1 : lones r = true) :
    ∃ news, VRs E r news ∧ Src P sz t' X n news w := by
  unfold srcCells at h
  split at h <;> first | (cases h; done) | skip
  · cases h; cases hx; exact ⟨[], .nil, Src.ofNil w ht 0⟩
  · cases h; cases hx; rename_i a c
    exact ⟨[], .nil, Src.ofSlice w ht a 0 c [] (by simp) (by simp) (by simp)⟩
  · rename_i id off len cap
    obtain ⟨r', hr, h⟩ := ob_eq h
    cases h; cases hx; rename_i b c hb
    obtain ⟨cs, e1, e2, e3⟩ := cellsAt_ok hS hr hb
    exact ⟨cs, e1, Src.ofSlice w ht _ _ cap cs e2 (fun j u hj => by rw [add_off]; exact e3 j u hj) (lones_ok h1 e1)⟩
  · rename_i id i sz' len
    obtain ⟨h2, h3⟩ := ck_eq h
    obtain ⟨r', hr, h4⟩ := ob_eq h3
    cases h4
    have h2 := Nat.eq_of_beq_eq_true h2; subst h2
    cases hx; rename_i b c hb hc
    obtain ⟨cs, e1, e2, e3⟩ := cellsAt_ok hS hr hb
    exact ⟨cs, e1, Src.ofSlice w ht _ _ _ cs e2 (fun j u hj => by rw [add_off]; exact e3 j u hj) (lones_ok h1 e1)⟩

omit hS in
/-- Where there is room. -/
theorem append_room {t t' ty e : Nat} {ie : TypeInfo} (ht : P.underlying t = some (.slice e)) (hi : P.info? e = some ie) {b off sLen sCap n : Nat} {X : Value} {news : List Value} (hs : Src P ie.size t' X n news w) (hroom : sLen + n ≤ sCap)
    {w' : World} (hst : (storeCells ⟨b, off + sLen * ie.size, none⟩ news).run P w = .ok () w') :
    (Builtin.append_ #[t, t'] ty #[.slice (some ⟨b, off, none⟩) sLen sCap, X]).run P w = .ok (.slice (some ⟨b, off, none⟩) (sLen + n) sCap) w' := by
  rcases hs.kind with ⟨e', hk⟩ | hk <;> simp [Builtin.append_, run_underlying' ht, run_underlying' hk, sizeOf, typeInfo, hi, hs.len, hroom, hs.cells, add_off, hst]

omit hS in
theorem grownCap_le (w : World) (need old e : Nat) : need ≤ grownCap w need old e := by
  unfold grownCap Question.cut; exact Nat.le_add_right _ _

/-- Where there is none. -/
theorem append_grow {t t' ty e n sLen sCap : Nat} {ie : TypeInfo} {z : V} (ht : P.underlying t = some (.slice e)) (hi : P.info? e = some ie) (hz : zeroT P e = some z) (hzs : (cellsV z).length = ie.size)
    {base : Option Addr} {olds : List Value} {ol : List V} (hold : (Builtin.firstCells ie.size sLen (.slice base sLen sCap)).run P w.drew = .ok olds.toArray w.drew) (hol : VRs E ol olds) (hoz : olds.length = sLen * ie.size)
    {X : Value} {news : List Value} {nl : List V} (hs : Src P ie.size t' X n news w) (hn : VRs E nl news) (hg : sCap < sLen + n) (hb : ie.bytes < 65536) (hsm : sLen + n < 65536) {v : V} {s' : S I.M}
    (h : growTo s e ie.size (sLen + n) (ol ++ nl) = some (v, s')) :
    ∃ w' W E', (Builtin.append_ #[t, t'] ty #[.slice base sLen sCap, X]).run P w = .ok W w' ∧ E.le E' ∧ VR E' v W ∧ Sim I K E' s'.H s'.nx s'.m w' := by
  obtain ⟨i', hi', hz'⟩ := iT_eq hz
  rw [hi] at hi'; cases hi'
  obtain ⟨Z, hZ, hzv⟩ := ob_eq hz'
  have hrun := run_append_grow_src (P := P) w t t' ty e ie Z ht hi hZ base sLen sCap olds hold X n news hs hg (by omega) (growslice_fits hg (by
    calc (sLen + n) * ie.bytes ≤ 65536 * 65536 := Nat.mul_le_mul (by omega) (by omega)
      _ ≤ _ := by decide))
  have hz2 : Z.cells.size = ie.size := by
    have := (cellsV_ok (E := E) (ofValue_ok hzv)).1
    rw [hzs] at this; simpa using this.symm
  have hS' : Sim I K E s.H s.nx s.m w.drew := hS.same rfl rfl rfl rfl
  have hc := grownCap_le w (sLen + n) sCap e
  have hll : (ol ++ nl).length = (sLen + n) * ie.size := by
    rw [List.length_append, hol.1, hn.1, hoz, hs.newsLen, Nat.add_mul]
  obtain ⟨rfl, h4, h5⟩ := newB_ok hS' h (c := (0, grownCap w (sLen + n) sCap e)) (ob := .cells ((olds ++ news).toArray ++ Builtin.zeroCells Z.cells (grownCap w (sLen + n) sCap e - (sLen + n))) e)
    (.grow rfl (by
      show _ = 0 + grownCap w (sLen + n) sCap e * ie.size
      rw [Nat.zero_add]
      simp only [Array.size_append, List.size_toArray, size_zeroCells, hz2, List.length_append, hoz, hs.newsLen]
      rw [← Nat.add_mul, ← Nat.add_mul]; congr 1; omega) (by rw [hll]; exact Nat.mul_le_mul_right _ hc) (by
      have : VRs E (ol ++ nl) (olds ++ news) := hol.append hn
      have e1 : (List.take (ol ++ nl).length (List.drop 0 ((olds ++ news).toArray ++ Builtin.zeroCells Z.cells (grownCap w (sLen + n) sCap e - (sLen + n))).toList)) = olds ++ news := by
        simp only [List.drop_zero, Array.toList_append]
        rw [List.take_append_of_le_length (by simp [hol.1, hn.1])]
        exact List.take_of_length_le (by simp [hol.1, hn.1])
      rw [e1]; exact this.mono (Env.le_bind (hS.fresh _ (Nat.le_refl _)) (Nat.le_of_eq hS.top))) (grownCap_le_maxLen w _ sCap e (by unfold maxLen; omega)))
  refine ⟨_, _, _, hrun, h4, ?_, h5⟩
  have := VR.sg (E := E.bind s.nx w.drew.heap.size (0, grownCap w (sLen + n) sCap e)) (i := 0) (sz := ie.size) (len := sLen + n) (Env.bind_self ..) (by simpa using hc)
  simpa using this

include hev in
theorem eAppend_ok {args : Array Operand} {types : Array Nat} {ty : Nat} {v : V} {s' : S I.M} (h : eAppend P ev s args.toList types.toList = some (v, s')) :
    ∃ w' W E', (Builtin.append_ types ty (args.map ρ)).run P w = .ok W w' ∧ E.le E' ∧ VR E' v W ∧ Sim I K E' s'.H s'.nx s'.m w' := by
  unfold eAppend at h
  split at h <;> first | (cases h; done) | skip
  rename_i x y t t' hx ht
  have hargs : args = #[x, y] := by rw [← Array.toArray_toList (xs := args), hx]
  have htypes : types = #[t, t'] := by rw [← Array.toArray_toList (xs := types), ht]
  subst hargs htypes
  obtain ⟨a, ha, h⟩ := ob_eq h
  obtain ⟨b, hb, h⟩ := ob_eq h
  obtain ⟨e, he, h⟩ := ob_eq h
  obtain ⟨e', he', h⟩ := ob_eq h
  obtain ⟨sz, hsz, h⟩ := ob_eq h
  obtain ⟨z, hz, h⟩ := ob_eq h
  obtain ⟨ie, hie, h⟩ := iT_eq h
  obtain ⟨hby, h⟩ := ck_eq h
  obtain ⟨hzs, h⟩ := ck_eq h
  obtain ⟨nc, hnc, h⟩ := ob_eq h
  obtain ⟨h1, h⟩ := ck_eq h
  obtain ⟨n, nl⟩ := nc
  dsimp only at h h1
  have hby := Nat.le_of_ble_eq_true hby
  have hzs := Nat.eq_of_beq_eq_true hzs
  rw [llen_eq] at hzs
  obtain ⟨ie', hie', hsize⟩ := szT_ok hsz
  rw [hie] at hie'; cases hie'
  subst hsize
  have hd := elT_ok he
  have hd' := elT_ok he'
  have hra := hev ha
  obtain ⟨news, hn, hsrc⟩ := srcCells_ok hS hnc (hev hb) hd' h1
  have hzero : ∀ {k : Nat}, Nat.beq k 0 = false → 0 < k := fun {k} h => by
    rcases Nat.eq_zero_or_pos k with rfl | h'
    · cases h
    · exact h'
  simp only [List.map_toArray, List.map_cons, List.map_nil]
  generalize ρ y = Y at *
  generalize ρ x = X at *
  cases a with
  | nils =>
    cases hra
    cases hn0 : Nat.beq n 0 with
    | true =>
      have h : some (V.nils, s) = some (v, s') := by rw [← h]; simp only [hn0]
      cases h
      have := Nat.eq_of_beq_eq_true hn0; subst this
      have hnil : news = [] := List.eq_nil_of_length_eq_zero (by rw [hsrc.newsLen]; simp)
      subst hnil
      refine ⟨w, .slice none 0 0, E, ?_, .refl E, .nils, hS⟩
      rcases hsrc.kind with ⟨e2, hk⟩ | hk <;> simp [Builtin.append_, run_underlying' hd, run_underlying' hk, sizeOf, typeInfo, hie, hsrc.len, hsrc.cells]
    | false =>
      have h : ck (Nat.blt n 65536) (growTo s e ie.size n nl) = some (v, s') := by rw [← h]; simp only [hn0]
      obtain ⟨h2, h⟩ := ck_eq h
      have h2 := Nat.le_of_ble_eq_true h2
      exact append_grow (ol := []) (olds := []) (sLen := 0) hS hd hie hz hzs (run_firstCells_none w.drew ie.size 0 0 0) .nil (by simp) hsrc hn (by have := hzero hn0; omega) hby (by omega) (by simpa using h)
  | sl id off len cap =>
    cases hra with | sl hb =>
    rename_i blk c
    simp only [fN_eq] at h
    obtain ⟨h2, h⟩ := ck_eq h
    have h2 := Nat.le_of_ble_eq_true h2
    cases hroom : Nat.ble (len + n) cap with
    | false =>
      rw [hroom] at h
      obtain ⟨old, hold, h⟩ := ob_eq h
      obtain ⟨cs, hcs, h⟩ := ob_eq h
      rw [lapp_eq] at hcs; cases hcs
      have hnr : ¬ len + n ≤ cap := fun hh => by rw [Nat.ble_eq_true_of_le hh] at hroom; cases hroom
      obtain ⟨olds, e1, e2, e3⟩ := cellsAt_ok hS hold hb
      exact append_grow hS hd hie hz hzs (run_firstCells_some (P := P) w.drew ie.size len ⟨blk, c.1 + off, none⟩ len cap olds e2 (fun j u hj => by rw [add_off]; simpa using e3 j u hj)) e1 e2 hsrc hn (by omega) hby (by omega) h
    | true =>
      rw [hroom] at h
      have hr := Nat.le_of_ble_eq_true hroom
      cases hn0 : Nat.beq n 0 with
      | true =>
        have h : some (V.sl id off len cap, s) = some (v, s') := by rw [← h]; simp only [hn0]
        cases h
        have := Nat.eq_of_beq_eq_true hn0; subst this
        have hnil : news = [] := List.eq_nil_of_length_eq_zero (by rw [hsrc.newsLen]; simp)
        subst hnil
        exact ⟨w, _, E, append_room hd hie hsrc hr (w' := w) rfl, .refl E, .sl hb, hS⟩
      | false =>
        have h : (ob (ePut s id (off + len * ie.size) nl) fun s2 => some (V.sl id off (len + n) cap, s2)) = some (v, s') := by rw [← h]; simp only [hn0]
        obtain ⟨s2, hs2, h⟩ := ob_eq h
        cases h
        obtain ⟨w', h3, h4⟩ := ePut_ok (P := P) hS hs2 hb hn h1
        exact ⟨w', _, E, append_room hd hie hsrc hr (by rw [Nat.add_assoc]; exact h3), .refl E, .sl hb, h4⟩
  | sg id i sz' len =>
    cases hra with | sg hb hc =>
    rename_i blk c
    simp only [fN_eq] at h
    obtain ⟨h2, hA⟩ := ck_eq h
    obtain ⟨h3, hB⟩ := ck_eq hA
    have h2 := Nat.eq_of_beq_eq_true h2
    have h3 := Nat.le_of_ble_eq_true h3
    subst h2
    cases hn0 : Nat.beq n 0 with
    | true =>
      have h : some (V.sg id i ie.size len, s) = some (v, s') := by rw [← hB]; simp only [hn0]
      cases h
      have := Nat.eq_of_beq_eq_true hn0; subst this
      have hnil : news = [] := List.eq_nil_of_length_eq_zero (by rw [hsrc.newsLen]; simp)
      subst hnil
      exact ⟨w, _, E, append_room hd hie hsrc (by omega) (w' := w) rfl, .refl E, .sg hb hc, hS⟩
    | false =>
      rw [hn0] at hB
      obtain ⟨o, ho, h⟩ := ob_eq hB
      cases o with
      | grow t2 sz2 l =>
      obtain ⟨hi0, h⟩ := ck_eq h
      have hi0 := Nat.eq_of_beq_eq_true hi0
      obtain ⟨h4, k1⟩ := ck_eq h
      obtain ⟨h5, k2⟩ := ck_eq k1
      obtain ⟨old, hold, k3⟩ := ob_eq k2
      obtain ⟨cs, hcs, k4⟩ := ob_eq k3
      obtain ⟨H1, hH1, k5⟩ := ob_eq k4
      obtain ⟨H2, hH2, k6⟩ := ob_eq k5
      have h4 := Nat.eq_of_beq_eq_true h4
      have h5 := Nat.eq_of_beq_eq_true h5
      subst h4 h5
      cases k6
      rw [lapp_eq] at hcs; cases hcs
      have hold' : cellsAt s id (i * ie.size) (len * ie.size) = some old := by
        unfold cellsAt; rw [ho]; exact hold
      obtain ⟨olds, e1, e2, e3⟩ := cellsAt_ok hS hold' hb
      by_cases hroom : len + n ≤ c.2 - i
      · -- in place
        obtain ⟨L, t3, g1, g2, g3, g4⟩ := rowAt_ok hS ho rfl hb
        cases g2 with | grow q0 q1 q2 q3 q4 =>
        have hlen : news.length = n * ie.size := hsrc.newsLen
        have hsz2 : c.1 + i * ie.size + len * ie.size + 0 + news.length ≤ L.size := by
          rw [q1, hlen]
          have : i * ie.size + len * ie.size + n * ie.size ≤ c.2 * ie.size := by rw [← Nat.add_mul, ← Nat.add_mul]; exact Nat.mul_le_mul_right _ (by omega)
          omega
        have hst := run_storeCells_at P blk (c.1 + i * ie.size + len * ie.size) _ news 0 L w g1 hsz2 (lones_ok h1 hn)
        simp only [Nat.add_zero] at hst hsz2
        have hll : (l.drop (i * ie.size)).length = l.length - i * ie.size := List.length_drop
        obtain ⟨ho1, ho2⟩ := ltake_eq hold
        rw [ldrop_eq, hll] at ho2
        rw [ldrop_eq] at ho1
        have hL : L.toList.length = L.size := by simp
        have hold3 : VRs E old ((L.toList.drop (c.1 + i * ie.size)).take (len * ie.size)) := by
          rw [ho1]
          have := (g3.drop (i * ie.size)).take (len * ie.size)
          rw [List.drop_take, List.drop_drop, List.take_take, Nat.min_eq_left ho2] at this
          exact this
        have hlen3 : ((L.toList.drop (c.1 + i * ie.size)).take (len * ie.size)).length = len * ie.size := by rw [← hold3.1, ho1]; simp; omega
        have hput : (putL L.toList (c.1 + i * ie.size + len * ie.size) news).length = L.size := by rw [putL_length (by omega), hL]
        obtain ⟨k7, k8⟩ := hS.name (w' := w.setRow blk (putL L.toList (c.1 + i * ie.size + len * ie.size) news).toArray) (c2 := (c.1 + i * ie.size, c.2 - i)) ⟨ho, by simp⟩ hb hH1 hH2
          (ob := .cells (putL L.toList (c.1 + i * ie.size + len * ie.size) news).toArray _) (.grow (by show c.1 + i * ie.size = 0; rw [q0, hi0, Nat.zero_mul]) (by
            show _ = c.1 + i * ie.size + (c.2 - i) * ie.size
            rw [List.size_toArray, hput, q1, Nat.add_assoc, ← Nat.add_mul]; congr 2; omega) (by
            show _ ≤ (c.2 - i) * ie.size
            rw [List.length_append, hold3.1, hlen3, hn.1, hlen, ← Nat.add_mul]; exact Nat.mul_le_mul_right _ hroom) (by
            show VRs _ _ (List.take _ (List.drop (c.1 + i * ie.size) _))
            rw [show (putL L.toList (c.1 + i * ie.size + len * ie.size) news).toArray.toList = putL L.toList (c.1 + i * ie.size + len * ie.size) news from rfl, putL_drop (by omega)]
            unfold putL
            rw [← List.append_assoc, List.take_append_of_le_length (by rw [List.length_append, List.length_append, hold3.1, hn.1]; exact Nat.le_refl _), List.take_of_length_le (by rw [List.length_append, List.length_append, hold3.1, hn.1]; exact Nat.le_refl _)]
            exact (hold3.append hn).mono (Env.le_bind (hS.fresh _ (Nat.le_refl _)) (Nat.le_of_eq hS.top))) (by show c.2 - i ≤ maxLen; omega))
          rfl rfl rfl (by simp) (setRow_heap w blk L _ _ _ g1) (fun j hj => setRow_other w blk j _ hj)
        refine ⟨_, _, _, append_room hd hie hsrc hroom (by rw [hst]; simp [putL]), k7, ?_, k8⟩
        have := VR.sg (E := E.bind s.nx blk (c.1 + i * ie.size, c.2 - i)) (i := 0) (sz := ie.size) (len := len + n) (Env.bind_self ..) (by show _ ≤ c.2 - i; omega)
        simpa using this
      · have hS1 : Sim I K E H1 s.nx s.m w := hS.sub (fun l => by
          rcases (live_hset hH1).1 l with ⟨_, rfl, hx⟩ | ⟨_, l'⟩
          · exact absurd rfl hx
          · exact l')
        exact append_grow (s := ⟨H1, s.nx, s.m⟩) hS1 hd hie hz hzs (run_firstCells_some (P := P) w.drew ie.size len ⟨blk, c.1 + i * ie.size, none⟩ len (c.2 - i) olds e2 (fun j u hj => by rw [add_off]; simpa using e3 j u hj)) e1 e2 hsrc hn (by omega) hby (by omega) (by
          unfold growTo newB; dsimp only; rw [hH2]; exact fN_eq (s.nx + 1) (fun n_1 => some (V.sg s.nx 0 ie.size (len + n), (⟨H2, n_1, s.m⟩ : S I.M))))
      | _ => cases h
  | _ => cases h
end
end X
end Go.Proofs.YtnkjnclpakfgnaaGreatDoor
namespace Go.Proofs.YtnkjnclpakfgnaaGreatDoor
namespace X

section
variable (P : Program) {M : Type} (ev : Operand → Option V) (s : S M)
noncomputable def eRange (t : Nat) (x : Operand) : Option (V × S M) := ob (ev x) fun v => uT P t fun d => match d, v with
  | .string, .str l => newB s (.iter l 0) (.ptr s.nx 0)
  | _, _ => none
noncomputable def eNext (x : Operand) (isString : Bool) : Option (V × S M) := ck isString (ob (ev x) fun v => match v with
  | .ptr id 0 => ob (hget s.H id) fun o => match o with
    | .iter [] _ => some (.tup [.bool false], s)
    | .iter (b :: l) pos => ck (Nat.blt b 128) (fN (pos + 1) fun pos' => ob (hset s.H id (.iter l pos')) fun H => some (.tup [.bool true, .int .i64 (.ofNat pos), .int .i32 (.ofNat b)], ⟨H, s.nx, s.m⟩))
    | _ => none
  | _ => none)
noncomputable def lrep {α : Type} (n : Nat) (v : α) : Option (List α) := n.rec (some []) (fun _ ih => ob ih fun r => some (v :: r))
theorem lrep_eq {α : Type} (n : Nat) (v : α) : lrep n v = some (List.replicate n v) := by
  induction n with
  | zero => rfl
  | succ n ih => show ob (lrep n v) _ = _; rw [ih]; rfl
noncomputable def eMake (t : Nat) (x y : Operand) : Option (V × S M) := ob (ev x) fun a => ob (ev y) fun b => match a, b with
  | .int .i64 (.ofNat n), .int .i64 (.ofNat c) => ob (elT P t) fun e => ob (szT P e) fun sz => ck (Nat.beq sz 1) (iT P e fun ie => ck (Nat.blt ie.bytes 65536) (ob (zeroT P e) fun z => ck (one z)
      (ck (Nat.ble n c) (ck (Nat.blt 0 c) (ck (Nat.blt c 65536) (ob (lrep c z) fun cs => newB s (.cells e cs) (.sl s.nx 0 n c)))))))
  | _, _ => none
end

section
variable {P : Program} {I : Inv} {K : Keep} {E : Env} {w : World} {s : S I.M} {ev : Operand → Option V} {ρ : Operand → Value} (hev : ∀ {x v}, ev x = some v → VR E v (ρ x)) (hS : Sim I K E s.H s.nx s.m w)
include hev hS
theorem eRange_ok {t : Nat} {x : Operand} {v : V} {s' : S I.M} (h : eRange P ev s t x = some (v, s')) : Good I K P E w v s' (do pure (.value (← Instr.range t (ρ x)))) := by
  obtain ⟨u, hu, h⟩ := ob_eq h
  obtain ⟨d, hd, h⟩ := uT_eq h
  have hr := hev hu
  split at h
  · rename_i l
    generalize hx : ρ x = X at hr; cases hr with | str hS' =>
    rename_i Str
    obtain ⟨rfl, h4, h5⟩ := newB_ok hS h (c := (0, 0)) (ob := .stringIter Str 0) (.iter rfl (by simpa using hS'))
    refine ⟨_, _, _, _, ?_, .inl rfl, h4, .ptr (Env.bind_self ..), h5⟩
    simp [Instr.range, run_underlying' hd]
  · cases h

theorem eNext_ok {x : Operand} {isS : Bool} {ty : Nat} {v : V} {s' : S I.M} (h : eNext ev s x isS = some (v, s')) : Good I K P E w v s' (do pure (.value (← Instr.next (ρ x) isS ty))) := by
  obtain ⟨h1, h⟩ := ck_eq h
  subst h1
  obtain ⟨u, hu, h⟩ := ob_eq h
  have hr := hev hu
  split at h
  · rename_i id
    obtain ⟨o, ho, h⟩ := ob_eq h
    generalize hx : ρ x = X at hr; cases hr with | ptr hb =>
    rename_i b c
    split at h
    · rename_i pos
      cases h
      obtain ⟨oo, g1, g2⟩ := hS.at ⟨ho, by simp⟩ hb
      cases g2 with | iter g3 g4 =>
      rename_i Str
      have hlt : ¬ pos < Str.size := by
        have := List.drop_eq_nil_iff.1 g4
        rw [bytesN_length] at this; omega
      refine ⟨_, w, .tuple #[.bool false], E, ?_, .inl rfl, .refl E, VRs.tup (.cons (.bool _) .nil), hS⟩
      simp [Instr.next, getObj, Sem.run, g1, hlt, g3]
    · rename_i b0 l pos
      obtain ⟨h2, h3⟩ := ck_eq h
      rw [fN_eq] at h3
      obtain ⟨H, hH, h4⟩ := ob_eq h3
      cases h4
      have h2 := Nat.le_of_ble_eq_true h2
      obtain ⟨oo, g1, g2⟩ := hS.at ⟨ho, by simp⟩ hb
      cases g2 with | iter g3 g4 =>
      rename_i Str
      have hlt : pos < Str.size := by
        rcases Nat.lt_or_ge pos Str.size with h | h
        · exact h
        · rw [List.drop_eq_nil_of_le (by rw [bytesN_length]; exact h)] at g4; cases g4
      have hd : (bytesN Str)[pos]? = some b0 := by
        have := congrArg (fun l => l[0]?) g4
        simpa using this
      obtain ⟨y, hy, hyb⟩ := get_bytesN hd
      have hdec : Utf8.decode Str pos = (b0, 1) := by
        have : Str.get! pos = y := by
          have h5 : Str[pos] = y := by
            rw [getElem?_pos Str pos hlt] at hy; exact Option.some.inj hy
          rw [← h5]
          rw [show Str.get! pos = Str.data[pos]! from by cases Str; rfl, getElem!_pos Str.data pos hlt]; rfl
        simp only [Utf8.decode, Nat.add_zero, this, hyb]
        rw [if_pos (by omega)]
      refine ⟨_, { w with heap := w.heap.setIfInBounds b (.stringIter Str (pos + 1)) }, .tuple #[.bool true, .int .i64 (.ofNat pos), .int .i32 (.ofNat b0)], E, ?_, .inl rfl, .refl E, VRs.tup (.cons (.bool _) (.cons (.int _ _) (.cons (.int _ _) .nil))), ?_⟩
      · simp [Instr.next, getObj, setObj, Sem.run, g1, hlt, g3, hdec, goInt]
      · have hbl : b < w.heap.size := (Array.getElem?_eq_some_iff.1 g1).1
        refine hS.put ⟨ho, by simp⟩ hb hH (.iter g3 (S := Str) ?_) rfl rfl rfl (by simp) (by simp [hbl]) (fun j hj => by simp [Ne.symm hj])
        have := congrArg (List.drop 1) g4
        simpa [List.drop_drop, Nat.add_comm] using this
    · cases h
  · cases h

theorem eMake_ok {t : Nat} {x y : Operand} {v : V} {s' : S I.M} (h : eMake P ev s t x y = some (v, s')) : Good I K P E w v s' (do pure (.value (← Instr.makeSlice t (ρ x) (ρ y)))) := by
  obtain ⟨a, ha, hA⟩ := ob_eq h
  obtain ⟨b, hb, hB⟩ := ob_eq hA
  have hra := hev ha
  have hrb := hev hb
  clear h hA
  split at hB
  · rename_i n c
    obtain ⟨e, he, h⟩ := ob_eq hB
    obtain ⟨sz, hsz, h⟩ := ob_eq h
    obtain ⟨h1, h⟩ := ck_eq h
    obtain ⟨ie, hie, h⟩ := iT_eq h
    obtain ⟨h2, h⟩ := ck_eq h
    obtain ⟨z, hz, h⟩ := ob_eq h
    obtain ⟨h3, h⟩ := ck_eq h
    obtain ⟨h4, h⟩ := ck_eq h
    obtain ⟨h5, h⟩ := ck_eq h
    obtain ⟨h6, h⟩ := ck_eq h
    obtain ⟨cs, hcs, h⟩ := ob_eq h
    rw [lrep_eq] at hcs; cases hcs
    have h1 := Nat.eq_of_beq_eq_true h1
    have h2 := Nat.le_of_ble_eq_true h2
    have h4 := Nat.le_of_ble_eq_true h4
    have h5 := Nat.le_of_ble_eq_true h5
    have h6 := Nat.le_of_ble_eq_true h6
    generalize hx : ρ x = X at hra; cases hra
    generalize hy : ρ y = Y at hrb; cases hrb
    obtain ⟨Z, hZ, hzr⟩ := zeroT_ok (E := E) hz
    have hzc := (one_cells hzr h3).1
    have hd := elT_ok he
    obtain ⟨ie', hie', hsize⟩ := szT_ok hsz
    rw [hie] at hie'; cases hie'
    obtain ⟨rfl, q4, q5⟩ := newB_ok hS h (c := (0, 0)) (ob := .cells (List.replicate c Z).toArray e) (.cells rfl (by simpa using ((VRs.replicate hzr c).mono (Env.le_bind (hS.fresh _ (Nat.le_refl _)) (Nat.le_of_eq hS.top)))))
    refine ⟨_, _, _, _, ?_, .inl rfl, q4, .sl (Env.bind_self ..), q5⟩
    have hnb : (ie.bytes : Int) * (c : Int) ≤ 281474976710656 := by
      have h7 : ie.bytes * c ≤ 281474976710656 := Nat.le_trans (Nat.mul_le_mul (show ie.bytes ≤ 65536 by omega) (show c ≤ 65536 by omega)) (by decide)
      rw [← Int.natCast_mul]; exact Int.ofNat_le.2 h7
    have hmap : (Array.range c).map (Z.cells[· % Z.cells.size]!) = (List.replicate c Z).toArray := by
      apply Array.ext'
      rw [hzc]
      simp [Nat.mod_one, List.map_const']
    obtain ⟨i', hi', hz'⟩ := iT_eq hz
    rw [hie] at hi'; cases hi'
    obtain ⟨Z', hZ', hzv⟩ := ob_eq hz'
    have hZZ : Z' = Z := by
      have := hZ w
      simpa [zeroValue, typeInfo, hie, hZ'] using this
    subst hZZ
    have hrun := run_makeSlice (P := P) w t e ie Z' hd hie hZ' .i64 .i64 (Int.ofNat n) (Int.ofNat c) (by simp) (by simpa using h4) (by rw [hsize, h1]; simp; omega) hnb (by simp; omega)
    simp only [Int.toNat_natCast, Int.ofNat_eq_natCast, h1, hsize, Nat.mul_one, madeCells, hmap] at hrun ⊢
    rw [Sem.run_bind, hrun]
    rfl
  · cases hB
end
end X
end Go.Proofs.YtnkjnclpakfgnaaGreatDoor
namespace Go.Proofs.YtnkjnclpakfgnaaGreatDoor
namespace X

/-! ## pairs -/
/-- Is it a number that may be a key? -/
noncomputable def isKey (a : V) : Bool := match a with
  | .int k _ => Nat.beq (kno k) 7
  | .sym k _ => Nat.beq (kno k) 7
  | _ => false
noncomputable def keq (a b : V) : Option Bool := match a, b with
  | .int _ n, .int _ m => fB (ieq n m) some
  | .sym _ s, .sym _ t => ck (Nat.beq s t) (some true)
  | _, _ => none
theorem isKey_ok {E : Env} {a : V} {A : Value} (h : isKey a = true) (ha : VR E a A) : ∃ n, A = .int .u64 n := by
  unfold isKey at h
  cases ha <;> first | (cases h; done) | skip
  · rw [kno_inj (k' := .u64) h]; exact ⟨_, rfl⟩
  · rw [kno_inj (k' := .u64) h]; exact ⟨_, rfl⟩
theorem keq_ok {E : Env} {a b : V} {r : Bool} {n m : Int} (h : keq a b = some r) (ha : VR E a (.int .u64 n)) (hb : VR E b (.int .u64 m)) : r = decide (n = m) := by
  unfold keq at h
  split at h <;> first | (cases h; done) | skip
  · cases ha; cases hb
    rw [fB_eq] at h
    rw [← Option.some.inj h, ieq_eq]
  · obtain ⟨h1, h2⟩ := ck_eq h
    cases h2
    cases ha with
    | sym ha =>
      cases hb with
      | sym hb =>
        rw [Nat.eq_of_beq_eq_true h1, hb] at ha
        cases ha; simp

noncomputable def mpGet (k : V) (l : List (V × V)) : Option (Option V) := l.rec (some none) (fun x _ ih => ob (keq k x.1) fun b => b.rec ih (some (some x.2)))
noncomputable def mpSet (k v : V) (l : List (V × V)) : Option (List (V × V)) := l.rec (some [(k, v)]) (fun x r ih => ob (keq k x.1) fun b => b.rec (ob ih fun r => some (x :: r)) (some ((k, v) :: r)))
noncomputable def mpDel (k : V) (l : List (V × V)) : Option (List (V × V)) := l.rec (some []) (fun x r ih => ob (keq k x.1) fun b => b.rec (ob ih fun r => some (x :: r)) (some r))

theorem mpGet_ok {E : Env} {k : V} {n : Int} (hk : VR E k (.int .u64 n)) : ∀ {l : List (V × V)} {m : List (Int × Value)} {r : Option V}, mpGet k l = some r → MR E l m →
    (r = none ∧ mget m n = none) ∨ ∃ v W, r = some v ∧ mget m n = some W ∧ VR E v W
  | [], m, r, h, hm => by cases hm; cases h; exact .inl ⟨rfl, rfl⟩
  | x :: l, m, r, h, hm => by
    cases hm with
    | cons h1 h2 h3 =>
      obtain ⟨b, hb, h⟩ := ob_eq h
      have hd := keq_ok hb hk h1
      rw [mget_cons]
      cases b with
      | true => cases h; rw [if_pos (of_decide_eq_true hd.symm)]; exact .inr ⟨_, _, rfl, rfl, h2⟩
      | false => rw [if_neg (of_decide_eq_false hd.symm)]; exact mpGet_ok hk h h3
theorem mpSet_ok {E : Env} {k v : V} {n : Int} {W : Value} (hk : VR E k (.int .u64 n)) (hv : VR E v W) : ∀ {l r : List (V × V)} {m : List (Int × Value)}, mpSet k v l = some r → MR E l m → MR E r (mset m n W)
  | [], r, m, h, hm => by cases hm; cases h; exact .cons hk hv .nil
  | x :: l, r, m, h, hm => by
    cases hm with
    | cons h1 h2 h3 =>
      obtain ⟨b, hb, h⟩ := ob_eq h
      have hd := keq_ok hb hk h1
      unfold mset
      cases b with
      | true => cases h; rw [if_pos (of_decide_eq_true hd.symm)]; exact .cons hk hv h3
      | false =>
        obtain ⟨r', hr, h⟩ := ob_eq (o := mpSet k v l) h
        cases h
        rw [if_neg (of_decide_eq_false hd.symm)]; exact .cons h1 h2 (mpSet_ok hk hv hr h3)
theorem mpDel_ok {E : Env} {k : V} {n : Int} (hk : VR E k (.int .u64 n)) : ∀ {l r : List (V × V)} {m : List (Int × Value)}, mpDel k l = some r → MR E l m → MR E r (mdel m n)
  | [], r, m, h, hm => by cases hm; cases h; exact .nil
  | x :: l, r, m, h, hm => by
    cases hm with
    | cons h1 h2 h3 =>
      obtain ⟨b, hb, h⟩ := ob_eq h
      have hd := keq_ok hb hk h1
      unfold mdel
      cases b with
      | true => cases h; rw [if_pos (of_decide_eq_true hd.symm)]; exact h3
      | false =>
        obtain ⟨r', hr, h⟩ := ob_eq (o := mpDel k l) h
        cases h
        rw [if_neg (of_decide_eq_false hd.symm)]; exact .cons h1 h2 (mpDel_ok hk hr h3)

/-! ## operations -/
section
variable (P : Program) {M : Type} (ev : Operand → Option V) (s : S M)
/-- A map's types, its keys being numbers. -/
noncomputable def mapT (t : Nat) : Option (Nat × Nat) := uT P t fun d => match d with
  | .map k e => uT P k fun d => match d with
    | .int i => ck (Nat.beq (kno i) 7) (some (k, e))
    | _ => none
  | _ => none
theorem mapT_ok {t k e : Nat} (h : mapT P t = some (k, e)) : P.underlying t = some (.map k e) ∧ KeyKind P k (Value.int .u64) := by
  obtain ⟨d, hd, h1⟩ := uT_eq h
  clear h
  split at h1 <;> first | (cases h1; done) | skip
  obtain ⟨d2, hd2, h2⟩ := uT_eq h1
  split at h2 <;> first | (cases h2; done) | skip
  obtain ⟨h3, h4⟩ := ck_eq h2
  cases h4
  rw [kno_inj (k' := .u64) h3] at hd2
  exact ⟨hd, keyKind_int hd2⟩
noncomputable def mapL (id : Nat) : Option (List (V × V)) := ob (hget s.H id) fun o => match o with
  | .map l => some l
  | _ => none
/-- A pair as one number. -/
noncomputable def pairN (k : V) : Option V := match k with
  | .agg [.int i (.ofNat p), .int j (.ofNat q)] => ck (Nat.beq (kno i) 3) (ck (Nat.beq (kno j) 3) (ck (Nat.blt q 65536) (fN (p * 65536 + q) fun n => some (.int .u64 (.ofNat n)))))
  | _ => none
noncomputable def mapP (t : Nat) : Option Nat := uT P t fun d => match d with
  | .map k e => ck (Nat.beq k 124) (some e)
  | _ => none
theorem mapP_ok {t e : Nat} (h : mapP P t = some e) : P.underlying t = some (.map 124 e) := by
  obtain ⟨d, hd, h1⟩ := uT_eq h
  clear h
  split at h1 <;> first | (cases h1; done) | skip
  obtain ⟨h2, h3⟩ := ck_eq h1
  cases h3
  rw [Nat.eq_of_beq_eq_true h2] at hd
  exact hd
noncomputable def mapPL (id : Nat) : Option (List (V × V)) := ob (hget s.H id) fun o => match o with
  | .map [] => some []
  | .pmap l => some l
  | _ => none
noncomputable def eMakeMap (_t : Nat) : Option (V × S M) := newB s (.map []) (.mp s.nx)
noncomputable def eLookV (t id : Nat) (k : V) (ok : Bool) : Option V := match mapP P t with
  | some e => ob (mapPL s id) fun l => ob (pairN k) fun k => ob (mpGet k l) fun r => ob (zeroT P e) fun z => match r with
    | none => some (ok.rec z (.tup [z, .bool false]))
    | some v => some (ok.rec v (.tup [v, .bool true]))
  | none => ob (mapT P t) fun ke => ob (mapL s id) fun l => ck (isKey k) (ob (mpGet k l) fun r => ob (zeroT P ke.2) fun z => match r with
    | none => some (ok.rec z (.tup [z, .bool false]))
    | some v => some (ok.rec v (.tup [v, .bool true])))
noncomputable def eLookup (t : Nat) (x i : Operand) (ok : Bool) : Option (V × S M) := ob (ev x) fun a => ob (ev i) fun k => match a with
  | .mp id => ob (eLookV P s t id k ok) fun v => some (v, s)
  | _ => none
noncomputable def eMapUpd (t : Nat) (x i y : Operand) : Option (V × S M) := ob (ev x) fun a => ob (ev i) fun k => ob (ev y) fun v => match a with
  | .mp id => match mapP P t with
    | some _ => ob (mapPL s id) fun l => ob (pairN k) fun k => ob (mpSet k v l) fun r => ob (hset s.H id (.pmap r)) fun H => some (.tup [], ⟨H, s.nx, s.m⟩)
    | none => ob (mapT P t) fun _ => ob (mapL s id) fun l => ck (isKey k) (ob (mpSet k v l) fun r => ob (hset s.H id (.map r)) fun H => some (.tup [], ⟨H, s.nx, s.m⟩))
  | _ => none
noncomputable def eDelete (args : List Operand) (types : List Nat) : Option (V × S M) := match args, types with
  | [x, i], [t, kt] => ob (ev x) fun a => ob (ev i) fun k => match a with
    | .mp id => ob (mapT P t) fun ke => ck (Nat.beq ke.1 kt) (ob (mapL s id) fun l => ck (isKey k) (ob (mpDel k l) fun r => ob (hset s.H id (.map r)) fun H => some (.tup [], ⟨H, s.nx, s.m⟩)))
    | _ => none
  | _, _ => none
end

section
variable {P : Program} {I : Inv} {K : Keep} {E : Env} {w : World} {s : S I.M} {ev : Operand → Option V} {ρ : Operand → Value} (hev : ∀ {x v}, ev x = some v → VR E v (ρ x)) (hS : Sim I K E s.H s.nx s.m w)
include hS
theorem mapL_ok {id : Nat} {l : List (V × V)} (h : mapL s id = some l) {b : Nat} {c : Nat × Nat} (hb : E.blk id = some (b, c)) : Live s.H id (.map l) ∧ ∃ m, MR E l m ∧ MapOf (Value.int .u64) w b m ∧ c.1 = 0 := by
  obtain ⟨o, ho, h1⟩ := ob_eq h
  split at h1 <;> first | (cases h1; done) | skip
  cases h1
  have hl : Live s.H id (.map l) := ⟨ho, by simp⟩
  obtain ⟨ob, h2, h3⟩ := hS.at hl hb
  cases h3 with
  | map h0 h4 h5 h6 => exact ⟨hl, _, h4, ⟨_, _, h2, h5, h6⟩, h0⟩
omit hS in
theorem pairN_ok {k k' : V} {B : Value} (h : pairN k = some k') (rk : VR E k B) : ∃ n : Int, B = pairK n ∧ VR E k' (.int .u64 n) := by
  unfold pairN at h
  split at h <;> first | (cases h; done) | skip
  rename_i i p j q
  obtain ⟨h1, h⟩ := ck_eq h
  obtain ⟨h2, h⟩ := ck_eq h
  obtain ⟨h3, h⟩ := ck_eq h
  rw [fN_eq] at h; cases h
  obtain ⟨L, rfl, hL⟩ := rk.agg_inv
  obtain ⟨x, m, e, p1, h4⟩ := hL.head
  obtain ⟨y, m, rfl, p2, h5⟩ := h4.head
  have hm : m = [] := List.eq_nil_of_length_eq_zero h5.1.symm
  subst hm
  rw [show L = #[x, y] by rw [← Array.toArray_toList (xs := L), e]]
  cases p1; cases p2
  rw [kno_inj (k' := .i64) h1, kno_inj (k' := .i64) h2]
  exact ⟨_, (pairK_eq p q (Nat.le_of_ble_eq_true h3)).symm, .int _ _⟩
theorem mapPL_ok {id : Nat} {l : List (V × V)} (h : mapPL s id = some l) {b : Nat} {c : Nat × Nat} (hb : E.blk id = some (b, c)) : (∃ o, Live s.H id o) ∧ ∃ m, MR E l m ∧ MapOf pairK w b m ∧ c.1 = 0 := by
  obtain ⟨o, ho, h1⟩ := ob_eq h
  split at h1 <;> first | (cases h1; done) | skip
  · cases h1
    have hl : Live s.H id (.map []) := ⟨ho, by simp⟩
    obtain ⟨ob, h2, h3⟩ := hS.at hl hb
    cases h3 with
    | map h0 h4 h5 h6 => cases h4; exact ⟨⟨_, hl⟩, [], .nil, ⟨_, _, h2, h5, h6⟩, h0⟩
  · cases h1
    have hl : Live s.H id (.pmap _) := ⟨ho, by simp⟩
    obtain ⟨ob, h2, h3⟩ := hS.at hl hb
    cases h3 with
    | pmap h0 h4 h5 h6 => exact ⟨⟨_, hl⟩, _, h4, ⟨_, _, h2, h5, h6⟩, h0⟩
theorem eMakeMap_ok {t : Nat} {v : V} {s' : S I.M} (h : eMakeMap s t = some (v, s')) : Good I K P E w v s' (do pure (.value (← Instr.makeMap t none))) := by
  obtain ⟨rfl, h4, h5⟩ := newB_ok hS h (c := (0, 0)) (.map (m := []) (es := #[]) (ck := 0) rfl .nil rfl Bn.nil)
  exact ⟨_, _, _, _, rfl, .inl rfl, h4, .mp (Env.bind_self ..), h5⟩
include hev
omit hev in
theorem eLookV_ok {t id : Nat} {k : V} {ok : Bool} {v : V} (hpk : PairKind P 124) (h : eLookV P s t id k ok = some v) {A B : Value} (ra : VR E (.mp id) A) (rk : VR E k B) : ∃ W, (Instr.lookup t A B ok).run P w = .ok W w ∧ VR E v W := by
  unfold eLookV at h
  split at h
  · rename_i e he
    obtain ⟨l, hl, h⟩ := ob_eq h
    obtain ⟨k', hk', h⟩ := ob_eq h
    obtain ⟨r, hr, h⟩ := ob_eq h
    obtain ⟨z, hz, h⟩ := ob_eq h
    have ht1 := mapP_ok P he
    obtain ⟨n, rfl, rk'⟩ := pairN_ok hk' rk
    cases ra with
    | mp hb =>
      obtain ⟨_, m, hm, hM, _⟩ := mapPL_ok hS hl hb
      obtain ⟨Z, hz1, hz2⟩ := zeroT_ok (E := E) hz
      have hrun := run_lookup_pair hM hpk ht1 (hz1 w) n ok
      refine ⟨_, hrun, ?_⟩
      rcases mpGet_ok rk' hr hm with ⟨rfl, h3⟩ | ⟨v', W, rfl, h3, h4⟩
      · have h : some (ok.rec z (.tup [z, .bool false])) = some v := h
        cases h; rw [h3]
        cases ok with
        | false => exact hz2
        | true => exact VRs.tup (.cons hz2 (.cons (.bool _) .nil))
      · have h : some (ok.rec v' (.tup [v', .bool true])) = some v := h
        cases h; rw [h3]
        cases ok with
        | false => exact h4
        | true => exact VRs.tup (.cons h4 (.cons (.bool _) .nil))
  obtain ⟨⟨kt, et⟩, ht, h⟩ := ob_eq h
  obtain ⟨l, hl, h⟩ := ob_eq h
  obtain ⟨h1, h⟩ := ck_eq h
  obtain ⟨r, hr, h⟩ := ob_eq h
  obtain ⟨z, hz, h⟩ := ob_eq h
  obtain ⟨n, hn⟩ := isKey_ok h1 rk
  subst hn
  cases ra with
  | mp hb =>
    obtain ⟨ht1, hK⟩ := mapT_ok P ht
    obtain ⟨_, m, hm, hM, _⟩ := mapL_ok hS hl hb
    obtain ⟨Z, hz1, hz2⟩ := zeroT_ok (E := E) hz
    have hrun := run_lookup_map hM hK ht1 (hz1 w) n ok
    refine ⟨_, hrun, ?_⟩
    rcases mpGet_ok rk hr hm with ⟨rfl, h3⟩ | ⟨v', W, rfl, h3, h4⟩
    · have h : some (ok.rec z (.tup [z, .bool false])) = some v := h
      cases h; rw [h3]
      cases ok with
      | false => exact hz2
      | true => exact VRs.tup (.cons hz2 (.cons (.bool _) .nil))
    · have h : some (ok.rec v' (.tup [v', .bool true])) = some v := h
      cases h; rw [h3]
      cases ok with
      | false => exact h4
      | true => exact VRs.tup (.cons h4 (.cons (.bool _) .nil))
theorem eLookup_ok (hpk : PairKind P 124) {t : Nat} {x i : Operand} {ok : Bool} {v : V} {s' : S I.M} (h : eLookup P ev s t x i ok = some (v, s')) : Good I K P E w v s' (do pure (.value (← Instr.lookup t (ρ x) (ρ i) ok))) := by
  obtain ⟨a, ha, h⟩ := ob_eq h
  obtain ⟨k, hk, h⟩ := ob_eq h
  cases a with
  | mp id =>
    obtain ⟨u, hu, h⟩ := ob_eq h
    cases h
    obtain ⟨W, h1, h2⟩ := eLookV_ok hS hpk hu (hev ha) (hev hk)
    exact ⟨_, w, W, E, by simp only [Sem.run_bind, h1, Result.andThen_ok, Sem.run_pure], .inl rfl, .refl E, h2, hS⟩
  | _ => cases h
omit hev in
theorem pmap_put {id b : Nat} {c : Nat × Nat} {o : O} {r : List (V × V)} {m : List (Int × Value)} {H : T O} {w' : World} (hl : Live s.H id o) (hb : E.blk id = some (b, c)) (h0 : c.1 = 0) (hH : hset s.H id (.pmap r) = some H) (hr : MR E r m)
    (hM : MapOf pairK w' b m) (hu : Upd (fun k => k = b) w w') (hz : w'.heap.size = w.heap.size) : Sim I K E H s.nx s.m w' := by
  obtain ⟨es, ck, h1, h2, h3⟩ := hM
  refine hS.put hl hb hH (.pmap h0 hr h2 h3) hu.os hu.tape hu.output hz h1 (fun j hj => ?_)
  by_cases hlt : j < w.heap.size
  · exact hu.block j hlt hj
  · rw [Array.getElem?_eq_none (by omega), Array.getElem?_eq_none (by omega)]
omit hev in
theorem map_put {id b : Nat} {c : Nat × Nat} {l r : List (V × V)} {m : List (Int × Value)} {H : T O} {w' : World} (hl : Live s.H id (.map l)) (hb : E.blk id = some (b, c)) (h0 : c.1 = 0) (hH : hset s.H id (.map r) = some H) (hr : MR E r m)
    (hM : MapOf (Value.int .u64) w' b m) (hu : Upd (fun k => k = b) w w') (hz : w'.heap.size = w.heap.size) : Sim I K E H s.nx s.m w' := by
  obtain ⟨es, ck, h1, h2, h3⟩ := hM
  refine hS.put hl hb hH (.map h0 hr h2 h3) hu.os hu.tape hu.output hz h1 (fun j hj => ?_)
  by_cases hlt : j < w.heap.size
  · exact hu.block j hlt hj
  · rw [Array.getElem?_eq_none (by omega), Array.getElem?_eq_none (by omega)]
theorem eMapUpd_ok (hpk : PairKind P 124) {t : Nat} {x i y : Operand} {v : V} {s' : S I.M} (h : eMapUpd P ev s t x i y = some (v, s')) : Good I K P E w v s' (do Instr.mapUpdate t (ρ x) (ρ i) (ρ y); pure .skip) := by
  obtain ⟨a, ha, h⟩ := ob_eq h
  obtain ⟨k, hk, h⟩ := ob_eq h
  obtain ⟨u, hu, h⟩ := ob_eq h
  have ra := hev ha; have rk := hev hk
  cases a with
  | mp id =>
    have h : (match mapP P t with
      | some _ => ob (mapPL s id) fun l => ob (pairN k) fun k => ob (mpSet k u l) fun r => ob (hset s.H id (.pmap r)) fun H => some (V.tup [], (⟨H, s.nx, s.m⟩ : S I.M))
      | none => ob (mapT P t) fun _ => ob (mapL s id) fun l => ck (isKey k) (ob (mpSet k u l) fun r => ob (hset s.H id (.map r)) fun H => some (V.tup [], (⟨H, s.nx, s.m⟩ : S I.M)))) = some (v, s') := h
    split at h
    · rename_i e he
      obtain ⟨l, hl, h⟩ := ob_eq h
      obtain ⟨k', hk', h⟩ := ob_eq h
      obtain ⟨r, hr, h⟩ := ob_eq h
      obtain ⟨H, hH, h⟩ := ob_eq h
      cases h
      have ht1 := mapP_ok P he
      obtain ⟨n, hn, rk'⟩ := pairN_ok hk' rk
      rw [hn] at rk ⊢
      obtain ⟨X, hX⟩ : ∃ X, ρ x = X := ⟨_, rfl⟩
      rw [hX] at ra ⊢
      cases ra with
      | mp hb =>
        obtain ⟨⟨o, hl'⟩, m, hm, hM, h0⟩ := mapPL_ok hS hl hb
        obtain ⟨w', hrun, hM', hU, hz⟩ := run_update_pair hM hpk ht1 n (ρ y)
        refine ⟨.skip, w', undef, E, by simp only [Sem.run_bind, hrun, Result.andThen_ok, Sem.run_pure], .inr ⟨rfl, rfl⟩, .refl E, VRs.tup .nil, ?_⟩
        exact pmap_put hS hl' hb h0 hH (mpSet_ok rk' (hev hu) hr hm) hM' hU hz
    obtain ⟨⟨kt, et⟩, ht, h⟩ := ob_eq h
    obtain ⟨l, hl, h⟩ := ob_eq h
    obtain ⟨h1, h⟩ := ck_eq h
    obtain ⟨r, hr, h⟩ := ob_eq h
    obtain ⟨H, hH, h⟩ := ob_eq h
    cases h
    obtain ⟨n, hn⟩ := isKey_ok h1 rk
    rw [hn] at rk ⊢
    obtain ⟨X, hX⟩ : ∃ X, ρ x = X := ⟨_, rfl⟩
    rw [hX] at ra ⊢
    cases ra with
    | mp hb =>
      obtain ⟨ht1, hK⟩ := mapT_ok P ht
      obtain ⟨hl', m, hm, hM, h0⟩ := mapL_ok hS hl hb
      obtain ⟨w', hrun, hM', hU, hz⟩ := run_update_map hM hK ht1 n (ρ y)
      refine ⟨.skip, w', undef, E, by simp only [Sem.run_bind, hrun, Result.andThen_ok, Sem.run_pure], .inr ⟨rfl, rfl⟩, .refl E, VRs.tup .nil, ?_⟩
      exact map_put hS hl' hb h0 hH (mpSet_ok rk (hev hu) hr hm) hM' hU hz
  | _ => cases h
theorem eDelete_ok {args : Array Operand} {types : Array Nat} {ty : Nat} {v : V} {s' : S I.M} (h : eDelete P ev s args.toList types.toList = some (v, s')) :
    ∃ w' W E', (Builtin.delete_ types ty (args.map ρ)).run P w = .ok W w' ∧ E.le E' ∧ VR E' v W ∧ Sim I K E' s'.H s'.nx s'.m w' := by
  unfold eDelete at h
  split at h <;> first | (cases h; done) | skip
  rename_i x i t kt e1 e2
  have e1 : args = #[x, i] := by rw [← Array.toArray_toList (xs := args), e1]
  have e2 : types = #[t, kt] := by rw [← Array.toArray_toList (xs := types), e2]
  subst e1; subst e2
  obtain ⟨a, ha, h⟩ := ob_eq h
  obtain ⟨k, hk, h⟩ := ob_eq h
  have ra := hev ha; have rk := hev hk
  cases a with
  | mp id =>
    obtain ⟨⟨kt', et⟩, ht, h⟩ := ob_eq h
    obtain ⟨h9, hB⟩ := ck_eq h
    clear h
    have h9 : kt' = kt := Nat.eq_of_beq_eq_true h9
    subst h9
    obtain ⟨l, hl, h⟩ := ob_eq hB
    obtain ⟨h1, h⟩ := ck_eq h
    obtain ⟨r, hr, h⟩ := ob_eq h
    obtain ⟨H, hH, h⟩ := ob_eq h
    cases h
    obtain ⟨n, hn⟩ := isKey_ok h1 rk
    have e3 : (#[x, i] : Array Operand).map ρ = #[ρ x, ρ i] := by simp
    rw [e3]
    rw [hn] at rk ⊢
    obtain ⟨X, hX⟩ : ∃ X, ρ x = X := ⟨_, rfl⟩
    rw [hX] at ra ⊢
    cases ra with
    | mp hb =>
      obtain ⟨ht1, hK⟩ := mapT_ok P ht
      obtain ⟨hl', m, hm, hM, h0⟩ := mapL_ok hS hl hb
      obtain ⟨w', hrun, hM', hU, hz⟩ := run_delete_map hM hK ht1 n ty
      exact ⟨w', _, E, hrun, .refl E, VRs.tup .nil, map_put hS hl' hb h0 hH (mpDel_ok rk hr hm) hM' hU hz⟩
  | _ => cases h
end
end X
end Go.Proofs.YtnkjnclpakfgnaaGreatDoor
namespace Go.Proofs.YtnkjnclpakfgnaaGreatDoor
namespace X

/-- What a call answers. -/
abbrev CF (M : Type) := Nat → List V → S M → Option (V × S M)

/-- Every call that it answers does so. -/
def CallOk (I : Inv) (P : Program) (cf : CF I.M) : Prop :=
  ∀ {f : Nat} {args : List V} {s s' : S I.M} {v : V}, cf f args s = some (v, s') → ∀ {K : Keep} {E : Env} {w : World} {A : Array Value}, Sim I K E s.H s.nx s.m w → VRs E args A.toList →
    Calls P f A w fun e w' => ∃ W E', e = .returned W ∧ E.le E' ∧ VR E' v W ∧ Sim I K E' s'.H s'.nx s'.m w'

/-- No function of the program stands in for the count of goroutines. -/
structure Plain (P : Program) : Prop where
  go : ∀ (f : Nat) (fn : Func), P.funcs[f]? = some fn → (fn.name == "runtime.NumGoroutine") = false
  pair : PairKind P 124

section
variable (P : Program)
noncomputable def fnT (f : Nat) : Option Func := lget f P.funcs.toList
noncomputable def hasBody (f : Nat) : Bool := (fnT P f).rec false fun fn => fn.body.rec false (fun _ => true)
variable {M : Type} (cf : CF M) (ev : Operand → Option V) (s : S M)
noncomputable def eCall (c : Call) : Option (V × S M) := match c.callee with
  | .builtin .append => eAppend P ev s c.args.toList c.argTypes.toList
  | .builtin .len => ob (popLen P ev c.args.toList c.argTypes.toList) fun v => some (v, s)
  | .builtin .max => ob (popMM ev true c.args.toList) fun v => some (v, s)
  | .builtin .delete => eDelete P ev s c.args.toList c.argTypes.toList
  | .builtin .min => ob (popMM ev false c.args.toList) fun v => some (v, s)
  | .value f => ob (ev f) fun f => match f with
    | .fn f first caps => ck (hasBody P f) (ob (evs ev c.args.toList) fun l => ob (lapp l caps) fun l => ob (lapp first l) fun l => cf f l s)
    | _ => none
  | _ => none
/-- One operation. -/
noncomputable def sop (o : Op) : Option (V × S M) := match o with
  | .alloc t => eAlloc P s t
  | .box t x => eBox ev s t x
  | .buildSlice t len parts => eBuildSlice P ev s t len parts
  | .load t x => ob (eLoad P ev s t x) fun v => some (v, s)
  | .store t x y => eStore P ev s t x y
  | .range t x => eRange P ev s t x
  | .next x b => eNext ev s x b
  | .makeSlice t x y => eMake P ev s t x y
  | .makeMap t none => eMakeMap s t
  | .lookup t x i b => eLookup P ev s t x i b
  | .mapUpdate t x i y => eMapUpd P ev s t x i y
  | .call c => eCall P cf ev s c
  | o => ob (pop P ev o) fun v => some (v, s)
end

section
variable {P : Program} {I : Inv} {K : Keep} {E : Env} {w : World} {s s' : S I.M} {a : Act} {ev : Operand → Option V} {cf : CF I.M} {Q : Exit → Act → World → Prop} {next : Act → World → Prop} {o : Oper} {v : V}

theorem Good.wp (h : Good I K P E w v s' (execOp a.eval o)) (hn : ∀ W E' w', E.le E' → VR E' v W → Sim I K E' s'.H s'.nx s'.m w' → next (a.put o.dst W) w') : o.wp P a w next Q := by
  obtain ⟨N, w', W, E', h1, h2, h3, h4, h5⟩ := h
  unfold Oper.wp
  rw [h1]
  rcases h2 with rfl | ⟨rfl, rfl⟩
  · exact hn W E' w' h3 h4 h5
  · exact hn undef E' w' h3 h4 h5

theorem Good.same {x : Sem Next} (hS : Sim I K E s.H s.nx s.m w) (h : ∃ W, x.run P w = .ok (.value W) w ∧ VR E v W) : Good I K P E w v s x :=
  let ⟨W, h1, h2⟩ := h
  ⟨_, w, W, E, h1, .inl rfl, .refl E, h2, hS⟩

theorem sop_ok (hP : Plain P) (hcf : CallOk I P cf) (hev : ∀ {x v}, ev x = some v → VR E v (a.eval x)) (hS : Sim I K E s.H s.nx s.m w) (h : sop P cf ev s o.op = some (v, s'))
    (hn : ∀ W E' w', E.le E' → VR E' v W → Sim I K E' s'.H s'.nx s'.m w' → next (a.put o.dst W) w') : o.wp P a w next Q := by
  have pure_ : (ob (pop P ev o.op) fun v => some (v, s)) = some (v, s') → o.wp P a w next Q := fun h => by
    obtain ⟨u, hu, h⟩ := ob_eq h
    cases h
    exact (Good.same hS (pop_ok hev hu w)).wp hn
  obtain ⟨dst, op, ty, pos, after, guard⟩ := o
  cases op <;> dsimp only [sop] at h <;> first | exact pure_ h | skip
  case alloc t =>
    have g := eAlloc_ok (P := P) hS h
    refine Good.wp ?_ hn
    exact g
  case box t x =>
    have g := eBox_ok (P := P) hev hS h
    refine Good.wp ?_ hn
    exact g
  case buildSlice t len parts =>
    have g := eBuildSlice_ok (P := P) hev hS h
    refine Good.wp ?_ hn
    exact g
  case load t x =>
    obtain ⟨u, hu, h⟩ := ob_eq h
    cases h
    obtain ⟨W, h1, h2⟩ := eLoad_ok hev hS hu
    exact Good.wp (Good.same hS ⟨W, by simp [execOp, h1], h2⟩) hn
  case store t x y =>
    have g := eStore_ok (P := P) hev hS h
    refine Good.wp ?_ hn
    exact g
  case range t x =>
    have g := eRange_ok (P := P) hev hS h
    refine Good.wp ?_ hn
    exact g
  case next x b =>
    have g := eNext_ok (P := P) (ty := ty) hev hS h
    refine Good.wp ?_ hn
    exact g
  case makeSlice t x y =>
    have g := eMake_ok (P := P) hev hS h
    refine Good.wp ?_ hn
    exact g
  case makeMap t r =>
    cases r with
    | some _ => exact pure_ h
    | none =>
      have g := eMakeMap_ok (P := P) hS h
      refine Good.wp ?_ hn
      exact g
  case lookup t x i b =>
    have g := eLookup_ok (P := P) hev hS hP.pair h
    refine Good.wp ?_ hn
    exact g
  case mapUpdate t x i y =>
    have g := eMapUpd_ok (P := P) hev hS hP.pair h
    refine Good.wp ?_ hn
    exact g
  case call c =>
    obtain ⟨callee, args, types⟩ := c
    unfold eCall at h
    dsimp only at h
    split at h <;> first | (cases h; done) | skip
    · obtain ⟨w', W, E', h1, h2, h3, h4⟩ := eAppend_ok (ty := ty) hev hS h
      exact Good.wp ⟨.value W, w', W, E', by simp [execOp, resolve, invoke, builtin, h1], .inl rfl, h2, h3, h4⟩ hn
    · exact pure_ h
    · exact pure_ h
    · obtain ⟨w', W, E', h1, h2, h3, h4⟩ := eDelete_ok (ty := ty) hev hS h
      exact Good.wp ⟨.value W, w', W, E', by simp [execOp, resolve, invoke, builtin, h1], .inl rfl, h2, h3, h4⟩ hn
    · exact pure_ h
    · rename_i f
      obtain ⟨fv, hf, h1⟩ := ob_eq h
      have hr := hev hf
      clear h
      cases fv with
      | fn g first caps =>
        obtain ⟨h2, h3⟩ := ck_eq h1
        obtain ⟨l, hl, h4⟩ := ob_eq h3
        obtain ⟨l', hl', h45⟩ := ob_eq h4
        rw [lapp_eq] at hl'; cases hl'
        obtain ⟨l', hl', h5⟩ := ob_eq h45
        rw [lapp_eq] at hl'; cases hl'
        obtain ⟨F, L, hL, hFs, hLs⟩ := hr.fn_inv
        obtain ⟨fn, hfn, hb⟩ : ∃ fn, P.funcs[g]? = some fn ∧ fn.body.isNone = false := by
          unfold hasBody fnT at h2
          rw [lget_eq] at h2
          cases hx : P.funcs.toList[g]? with
          | none => rw [hx] at h2; cases h2
          | some fn =>
            rw [hx] at h2
            refine ⟨fn, by simpa using hx, ?_⟩
            cases hbb : fn.body with
            | none => simp only [hbb] at h2; cases h2
            | some c => rfl
        have hrun : (execOp a.eval ⟨dst, .call ⟨.value f, args, types⟩, ty, pos, after, guard⟩).run P w = .ok (.enter g (F ++ args.map a.eval ++ L)) w := by
          have hne : ¬ fn.name = "runtime.NumGoroutine" := by simpa using hP.go g fn hfn
          have hb' : ¬ fn.body = none := by rintro hh; rw [hh] at hb; cases hb
          simp [execOp, resolve, hL, Deferred.ofValue, invoke, callFunc, hfn, hne, hb']
        have hc := hcf h5 hS (A := F ++ args.map a.eval ++ L) (by simpa using hFs.append ((evs_ok hev hl).append hLs))
        unfold Oper.wp
        rw [hrun]
        refine hc.mono ?_
        rintro e w' ⟨W, E', rfl, q1, q2, q3⟩
        exact hn W E' w' q1 q2 q3
      | _ => cases h1
end
end X
end Go.Proofs.YtnkjnclpakfgnaaGreatDoor
