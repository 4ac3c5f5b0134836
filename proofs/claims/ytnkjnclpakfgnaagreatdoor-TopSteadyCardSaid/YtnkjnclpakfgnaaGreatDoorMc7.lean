/- The last plug, store.Horizon; all plugs together. · The parser run once for each text; its answers told anew wherever it is called. · Rounds that were run, as the world bears them. · Rounds, with the parser's answers at hand. · The store from its making on: New, Open, statements without a broom. No conditions. -/
import Derived.Test.YtnkjnclpakfgnaaGreatDoorMc6
import Derived.Test.YtnkjnclpakfgnaaGreatDoorMh1
import Derived.Test.YtnkjnclpakfgnaaGreatDoorZg
namespace Go.Proofs.YtnkjnclpakfgnaaGreatDoor
namespace X
open Go.RowKit

section
variable {TP : TreeP} {hT : TreeOk TP} {N : Int}
theorem pHor_ok {args : List V} {s s' : SM} {v : V} (h : pHor args s = some (v, s')) : Ans (IN TP hT N) 94 args s v s' := by
  unfold pHor at h
  split at h <;> first | (cases h; done) | skip
  rename_i st o H nx h0 lg fuel run own sa sb old hor tr dt ky ns bd sm
  obtain ⟨h1, h⟩ := ck_eq h
  obtain ⟨ob, hob, h⟩ := ob_eq h
  obtain ⟨r, hr, h⟩ := ob_eq h
  split at h <;> first | (cases h; done) | skip
  rename_i l o2 z1 z2 z3 z4 sp rest
  obtain ⟨h2, h⟩ := ck_eq h
  obtain ⟨h3, h⟩ := ck_eq h
  obtain ⟨ml, hml, h⟩ := ob_eq h
  obtain ⟨y, hy, h⟩ := ob_eq h
  rw [fN_eq] at h
  cases h
  obtain ⟨rfl, hne⟩ := nm_ok h2
  obtain rfl : o = 0 := Nat.eq_of_beq_eq_true h1
  obtain rfl : o2 = 0 := Nat.eq_of_beq_eq_true h3
  intro K E w A hS hA
  obtain ⟨F, ⟨c, f, L, g⟩, hG, hlv⟩ := hS.inv
  obtain ⟨p, hp, hL⟩ := g.log hne
  obtain ⟨x, rfl, hx⟩ := args1 hA
  -- the store's row
  obtain ⟨b, c0, ob0, q1, q2, q3⟩ := hS.heap ⟨hob, rowV_live hr⟩
  obtain ⟨Lc, t, rfl, hVs, hsz⟩ := q3.row hr
  have hc0 : c0.1 = 0 := by cases q3 <;> assumption
  rw [ptr_at hx q1 hc0]
  rw [hc0, List.drop_zero] at hVs
  have cell : ∀ {i : Nat} {z : V}, (V.ptr l 0 :: z1 :: z2 :: z3 :: z4 :: V.mp sp :: rest)[i]? = some z → ∃ Z, Lc[i]? = some Z ∧ VR E z Z := fun {i z} hz => by
    have hi := (List.getElem?_eq_some_iff.1 hz).1
    have hi2 : i < Lc.size := by omega
    refine ⟨Lc[i], Array.getElem?_eq_getElem hi2, hVs.2 i z _ hz ?_⟩
    rw [List.getElem?_take_of_lt hi, Array.getElem?_toList, Array.getElem?_eq_getElem hi2]
  obtain ⟨Z0, c1, v0⟩ := cell (i := 0) rfl
  obtain ⟨Z5, c5, v5⟩ := cell (i := 5) rfl
  obtain rfl := ptr_at v0 hp rfl
  cases v5 with
  | mp hb =>
    rename_i bm cm
    -- the map
    obtain ⟨ob1, ho1, hml⟩ := ob_eq hml
    split at hml <;> first | (cases hml; done) | skip
    cases hml
    obtain ⟨ob2, r1, r2⟩ := hS.at ⟨ho1, by simp⟩ hb
    cases r2 with
    | @map _ m _ es ck _ hMR he hn =>
      have hval : ∃ a0 : Int, (∀ e ∈ es.toList, e.val = .agg #[.int .u64 a0, .int .u64 (f + L.length), .int .u64 (f + L.length), .slice none 0 0]) ∧ es.size ≤ 1 := by
        unfold snapsOk at hy
        split at hy <;> first | (cases hy; done) | skip
        · cases hMR
          have : es.toList = [] := by simpa using he
          exact ⟨0, by rw [this]; exact fun e h => (by cases h), by rw [← Array.length_toList, this]; simp⟩
        · rename_i k v
          obtain ⟨_, hy⟩ := ck_eq hy
          cases hMR with
          | cons hk hv hr0 =>
            cases hr0
            obtain ⟨_, J, _, _, _, rfl⟩ := isSnap_ok g.tx hy hv
            have hl1 : es.toList.length = 1 := by have := congrArg List.length he; simpa using this
            obtain ⟨e0, he0⟩ := List.length_eq_one_iff.1 hl1
            rw [he0] at he
            refine ⟨f + J.length, ?_, by rw [← Array.length_toList, hl1]; exact Nat.le_refl _⟩
            rw [he0]
            intro e hm
            rw [List.mem_singleton.1 hm]
            exact (Prod.mk.inj (List.cons.inj he).1).2
      obtain ⟨a0, hv, hs1⟩ := hval
      refine (horizon94 hL q2 c1 c5 r1 hn hv hs1 rfl).mono ?_
      rintro e w' ⟨rfl, hB⟩
      have hle := Env.le_addS (n := f + L.length) (g.ns ns (Nat.le_refl _))
      have hself : (E.addS ns (f + L.length)).sy ns = some (f + L.length) := Env.addS_self ..
      have hu : Upd (fun _ => False) w w' := Upd.same hB
      have k := g.keepN hT (ns + 1) hle.sub (fun s hs => by rw [Env.addS_ne (by omega)]; exact g.ns s (by show ns ≤ s; omega)) hu (fun b _ h => h)
      have hvI : ∀ (r : RV) (v : Ver), VerI (E.addS ns (f + L.length)) f L ⟨l, fuel, run, own, sa, sb, old, hor⟩ r v → VerI (E.addS ns (f + L.length)) f L ⟨l, fuel, run, own, sa, sb, old, ns :: hor⟩ r v := fun r v q =>
        { row := q.row, mn1 := q.mn1, mn0 := q.mn0, mx0 := q.mx0, mx1 := q.mx1, mx2 := q.mx2, mx := q.mx, data := q.data }
      refine ⟨_, _, rfl, hle, .sym hself, ?_⟩
      refine hS.plug hG hlv (hu.mono (fun b _ h => h.elim)) hle (Nat.le_refl _) (fun id h => hS.fresh id h) hS.top (F' := F)
        ⟨c, f, L, { fc := k.fc, out := k.out, log := k.log, tx := { lim := k.tx.lim, one := k.tx.one, fuel := k.tx.fuel, idle := k.tx.idle, runs := k.tx.runs, old := k.tx.old, hor := fun z hz => ?_ }, heap := k.heap.map (Env.le.refl _).sub rfl rfl rfl (fun P q => q.map hvI), tree := k.tree, data := k.data, keys := k.keys, tabs := k.tabs, ns := k.ns, bd := k.bd, sm := k.sm }⟩ (fun b hb => .inl hb)
      rcases List.mem_cons.1 hz with rfl | hz
      · exact ⟨_, hself, Int.le_refl _⟩
      · exact k.tx.hor z hz
end

theorem plugs_ok {N : Int} : PlugOk (IT N) Tryz.prog pls plug := plug_ok (N := N) (fun h => pHor_ok h)
end X
end Go.Proofs.YtnkjnclpakfgnaaGreatDoor
namespace Go.Proofs.YtnkjnclpakfgnaaGreatDoor
namespace X
open Go.RowKit
set_option maxRecDepth 100000

/-! ### an answer, its names risen -/
noncomputable def shN (d i : Nat) : Nat := bq (Nat.blt i 8) (i + d) i
noncomputable def shV0 (d : Nat) (v : V) : Option V := match v with
  | .bool b => some (.bool b)
  | .int k n => some (.int k n)
  | .str l => some (.str l)
  | .nilp => some .nilp
  | .nils => some .nils
  | .nili => some .nili
  | .ptr i o => fN (shN d i) fun j => some (.ptr j o)
  | .sl i o n c => fN (shN d i) fun j => some (.sl j o n c)
  | .sg i o z n => fN (shN d i) fun j => some (.sg j o z n)
  | _ => none
noncomputable def shV (d : Nat) (v : V) : Option V := match v with
  | .ifc t x => ob (shV0 d x) fun y => some (.ifc t y)
  | v => shV0 d v
noncomputable def shL (d : Nat) (l : List V) : Option (List V) := l.rec (some []) fun x _ ih => ob (shV d x) fun y => ob ih fun r => some (y :: r)
noncomputable def shO (d : Nat) (o : O) : Option O := match o with
  | .cells t l => ob (shL d l) fun l => some (.cells t l)
  | .grow t s l => ob (shL d l) fun l => some (.grow t s l)
  | _ => none

section
variable {E E' : Env} {d : Nat}
theorem shV0_ok {a a' : V} {W : Value} (h : shV0 d a = some a') (hv : VR E a W) (hE : ∀ i x, E.blk i = some x → E'.blk (shN d i) = some x) : VR E' a' W := by
  unfold shV0 at h
  split at h <;> first | (cases h; done) | skip
  · cases h; cases hv; exact .bool _
  · cases h; cases hv; exact .int _ _
  · cases h; cases hv with | str e => exact .str e
  · cases h; cases hv; exact .nilp
  · cases h; cases hv; exact .nils
  · cases h; cases hv; exact .nili
  · rw [fN_eq] at h; cases h; cases hv with | ptr e => exact .ptr (hE _ _ e)
  · rw [fN_eq] at h; cases h; cases hv with | sl e => exact .sl (hE _ _ e)
  · rw [fN_eq] at h; cases h; cases hv with | sg e q => exact .sg (hE _ _ e) q
theorem shV_ok {a a' : V} {W : Value} (h : shV d a = some a') (hv : VR E a W) (hE : ∀ i x, E.blk i = some x → E'.blk (shN d i) = some x) : VR E' a' W := by
  unfold shV at h
  split at h
  · obtain ⟨y, hy, h⟩ := ob_eq h
    cases h
    cases hv with | ifc e => exact .ifc (shV0_ok hy e hE)
  · exact shV0_ok h hv hE
theorem shL_ok : ∀ {l l' : List V} {L : List Value}, shL d l = some l' → VRs E l L → (∀ i x, E.blk i = some x → E'.blk (shN d i) = some x) → l'.length = l.length ∧ VRs E' l' L
  | [], l', L, h, hv, hE => by
    cases h
    have : L = [] := List.eq_nil_of_length_eq_zero hv.1.symm
    subst this; exact ⟨rfl, .nil⟩
  | x :: l, l', L, h, hv, hE => by
    obtain ⟨y, hy, h⟩ := ob_eq h
    obtain ⟨r, hr, h⟩ := ob_eq (o := shL d l) h
    cases h
    obtain ⟨W, M, rfl, h1, h2⟩ := hv.head
    obtain ⟨i1, i2⟩ := shL_ok hr h2 hE
    exact ⟨by simp [i1], .cons (shV_ok hy h1 hE) i2⟩
theorem shO_ok {o o' : O} {c : Nat × Nat} {ob : Obj} (h : shO d o = some o') (hv : OR E o c ob) (hE : ∀ i x, E.blk i = some x → E'.blk (shN d i) = some x) : OR E' o' c ob := by
  unfold shO at h
  split at h <;> first | (cases h; done) | skip
  · obtain ⟨l, hl, h⟩ := ob_eq h
    cases h
    cases hv with | cells h0 e => exact .cells h0 (shL_ok hl e hE).2
  · obtain ⟨l, hl, h⟩ := ob_eq h
    cases h
    cases hv with
    | grow h0 hs hle e hm =>
      have hlen := (shL_ok hl e hE).1
      exact .grow h0 hs (by omega) (by rw [hlen]; exact (shL_ok hl e hE).2) hm
end

/-! ### an answer and what was run -/
noncomputable def mW0 (ρ : List Nat) (a b : V) : Bool := match a with
  | .nili => (match b with | .nili => true | _ => false)
  | a => mV ρ [] a b
noncomputable def mW (ρ : List Nat) (a b : V) : Bool := match a with
  | .ifc t x => (match b with | .ifc t' y => an (Nat.beq t t') (mW0 ρ x y) | _ => false)
  | a => mW0 ρ a b
noncomputable def mWs (ρ : List Nat) (l : List V) : List V → Bool := l.rec (fun m => m.rec true (fun _ _ _ => false)) (fun x _ ih m => m.rec false (fun y m _ => an (mW ρ x y) (ih m)))
noncomputable def mWO (ρ : List Nat) (a b : O) : Bool := match a with
  | .cells t l => (match b with | .cells t' l' => an (Nat.beq t t') (mWs ρ l l') | _ => false)
  | .grow t s l => (match b with | .grow t' s' l' => an (Nat.beq t t') (an (Nat.beq s s') (mWs ρ l l')) | _ => false)
  | _ => false
section
variable {E : Env} {ρ : List Nat}
theorem mW0_ok {a b : V} {W : Value} (h : mW0 ρ a b = true) (hb : VR E b W) : VR (E.ren ρ []) a W := by
  unfold mW0 at h
  split at h
  · split at h <;> first | (cases h; done) | skip
    cases hb; exact .nili
  · exact mV_ok h hb
theorem mW_ok {a b : V} {W : Value} (h : mW ρ a b = true) (hb : VR E b W) : VR (E.ren ρ []) a W := by
  unfold mW at h
  split at h
  · split at h <;> first | (cases h; done) | skip
    obtain ⟨h1, h2⟩ := an_ok h
    cases hb with
    | ifc e => rw [Nat.eq_of_beq_eq_true h1]; exact .ifc (mW0_ok h2 e)
  · exact mW0_ok h hb
theorem mWs_ok : ∀ {l m : List V} {L : List Value}, mWs ρ l m = true → VRs E m L → l.length = m.length ∧ VRs (E.ren ρ []) l L
  | [], [], L, _, h => by
    have : L = [] := List.eq_nil_of_length_eq_zero h.1.symm
    subst this; exact ⟨rfl, .nil⟩
  | [], _ :: _, _, h, _ => by cases h
  | _ :: _, [], _, h, _ => by cases h
  | x :: l, y :: m, L, h, hv => by
    obtain ⟨h1, h2⟩ := an_ok (a := mW ρ x y) (b := mWs ρ l m) h
    obtain ⟨W, M, rfl, e1, e2⟩ := hv.head
    obtain ⟨i1, i2⟩ := mWs_ok h2 e2
    exact ⟨by simp [i1], .cons (mW_ok h1 e1) i2⟩
theorem mWO_ok {a b : O} {c : Nat × Nat} {ob : Obj} (h : mWO ρ a b = true) (hb : OR E b c ob) : OR (E.ren ρ []) a c ob := by
  unfold mWO at h
  split at h <;> first | (cases h; done) | skip
  · split at h <;> first | (cases h; done) | skip
    obtain ⟨h1, h2⟩ := an_ok h
    cases hb with | cells h0 e => rw [Nat.eq_of_beq_eq_true h1]; exact .cells h0 (mWs_ok h2 e).2
  · split at h <;> first | (cases h; done) | skip
    obtain ⟨h1, h⟩ := an_ok h
    obtain ⟨h2, h3⟩ := an_ok h
    cases hb with
    | grow h0 hs hl e hm =>
      have hlen := (mWs_ok h3 e).1
      rw [Nat.eq_of_beq_eq_true h1, Nat.eq_of_beq_eq_true h2]
      exact .grow h0 hs (by omega) (by rw [hlen]; exact (mWs_ok h3 e).2) hm
theorem mWO_dead {a b : O} (h : mWO ρ a b = true) : b ≠ .dead := by
  unfold mWO at h
  split at h <;> first | (cases h; done) | skip
  all_goals (split at h <;> first | (cases h; done) | simp)
end

/-! ### the parser alone -/
/-- What blocks 1, 2 hold stays. -/
def IP (w0 : World) : Inv where
  M := Unit
  inv := fun _ _ w F => Lib.Utf8Tabs 1 2 w0 ∧ w.heap[1]? = w0.heap[1]? ∧ w.heap[2]? = w0.heap[2]? ∧ 2 < w.heap.size ∧ ∀ b, F b ↔ (b = 1 ∨ b = 2)
  loc := fun ⟨h1, h2, h3, h4, h5⟩ _ _ hz hF => ⟨h1, (hF 1 ((h5 1).2 (.inl rfl))).trans h2, (hF 2 ((h5 2).2 (.inr rfl))).trans h3, Nat.lt_of_lt_of_le h4 hz, h5⟩
  lt := fun ⟨_, _, _, h4, h5⟩ hb => by rcases (h5 _).1 hb with rfl | rfl <;> omega
theorem tabs_same {w w0 : World} (h : Lib.Utf8Tabs 1 2 w0) (h1 : w.heap[1]? = w0.heap[1]?) (h2 : w.heap[2]? = w0.heap[2]?) : Lib.Utf8Tabs 1 2 w := by
  have c1 : ∀ i, w.cell? ⟨1, i, none⟩ = w0.cell? ⟨1, i, none⟩ := fun i => by simp [World.cell?, h1]
  have c2 : ∀ i, w.cell? ⟨2, i, none⟩ = w0.cell? ⟨2, i, none⟩ := fun i => by simp [World.cell?, h2]
  exact ⟨fun c hc => (c1 c).trans (h.1 c hc), fun i hi => ⟨(c2 _).trans (h.2 i hi).1, (c2 _).trans (h.2 i hi).2⟩⟩
noncomputable def plsP (f : Nat) : Bool := lmem f [162, 243, 358, 336, 78]
noncomputable def plugP : CF Unit → CF Unit := fun cf f args s => bq (Nat.beq f 78) (ob (libP f args) fun v => some (v, s)) (ob (fnT Tryz.prog 78) fun fn => run78 cf (kp 78) (drR Tryz.prog cf fn.ntmps) fn args s)
noncomputable def cnP (k : Nat) : CF Unit := callN Tryz.prog kp (fun cf n => drR Tryz.prog cf n) plsP plugP k
theorem plugP_ok {w0 : World} : PlugOk (IP w0) Tryz.prog plsP plugP := by
  intro cf hcf f args s s' v _ h K E w A hS hA
  unfold plugP bq at h
  cases hb : Nat.beq f 78 with
  | false =>
    rw [hb] at h
    obtain ⟨u, hu, h⟩ := ob_eq h
    cases h
    exact libP_ok (I := IP w0) hu (fun {m E w F} q => tabs_same q.1 q.2.1 q.2.2.1) hS hA
  | true =>
    rw [hb] at h
    rw [Nat.eq_of_beq_eq_true hb]
    obtain ⟨fn, hf, h⟩ := ob_eq h
    have hf' : Tryz.prog.funcs[78]? = some fn := by
      have h2 := hf
      unfold fnT at h2
      rw [lget_eq, Array.getElem?_toList] at h2
      exact h2
    exact run78_ok hplain hcf (drR_ok (I := IP w0) (cf := cf) hplain hmix (@hcf) fn.ntmps) hf' h hS hA
theorem cnP_ok {w0 : World} (k : Nat) : CallOk (IP w0) Tryz.prog (cnP k) := callN_ok hplain (fun hcf n => drR_ok hplain hmix hcf n) plugP_ok k

/-- A text, what the parser answers, objects from name 8 on, and their names in the run. -/
structure Ent where
  q : List Nat
  vs : List V
  hl : List (Nat × O)
  ρ : List Nat
noncomputable def str3 (H : T O) : Bool := (hget H 3).rec false (fun o => mO [] [] (.cells 568 strs) o)
noncomputable def resB (e : Ent) (r : V × S Unit) : Bool := match r.1 with
  | .tup l => an (mWs e.ρ e.vs l) (an (onceB e.ρ) (an (str3 r.2.H) (allB (fun x => an (Nat.ble 8 x.1) ((rn e.ρ x.1).rec false (fun j => (hget r.2.H j).rec false (fun o => mWO e.ρ x.2 o)))) e.hl)))
  | _ => false
noncomputable def parseB (e : Ent) : Bool := (ob (mkH [(3, .cells 568 strs)]) fun H => ob (cnP 100 78 [.str e.q] ⟨H, 8, ()⟩) fun r => ck (resB e r) (some 0)).rec false (fun _ => true)
noncomputable def layH (d : Nat) (l : List (Nat × O)) (H : T O) : Option (T O) := l.rec (some H) fun x _ ih => ob ih fun H => ob (shO d x.2) fun o => fN (x.1 + d) fun j => hset H j o
noncomputable def pParse (e : Ent) (args : List V) (s : SM) : Option (V × SM) := match args, s with
  | [.str l], ⟨H, nx, m⟩ => ck (eqL l e.q) (ck (Nat.ble 8 nx) (ck (str3 H) (fN (nx - 8) fun d => ob (shL d e.vs) fun vs => ob (layH d e.hl H) fun H => fN (nx + llen e.ρ) fun nx' => some (.tup vs, ⟨H, nx', m⟩))))
  | _, _ => none

/-! ### its soundness -/
theorem layH_ok {d : Nat} : ∀ {l : List (Nat × O)} {H H' : T O}, layH d l H = some H' → ∀ {id : Nat} {o : O}, Live H' id o → (∃ x ∈ l, id = x.1 + d ∧ shO d x.2 = some o) ∨ Live H id o
  | [], H, H', h, id, o, hl => by cases h; exact .inr hl
  | x :: l, H, H', h, id, o, hl => by
    obtain ⟨H1, h1, h⟩ := ob_eq (o := layH d l H) h
    obtain ⟨p, hp, h⟩ := ob_eq h
    rw [fN_eq] at h
    rcases (live_hset h).1 hl with ⟨e1, e2, _⟩ | ⟨_, q⟩
    · exact .inl ⟨x, .head _, e1, by rw [hp, e2]⟩
    · rcases layH_ok h1 q with ⟨y, hy, r⟩ | r
      · exact .inl ⟨y, .tail _ hy, r⟩
      · exact .inr r
noncomputable def strB (v : V) : Bool := match v with | .str _ => true | _ => false
theorem strs_str : allB strB strs = true := by kernel_rfl
theorem strs_same {E E' : Env} : ∀ {l : List V} {L L' : List Value}, (∀ v ∈ l, strB v = true) → VRs E l L → VRs E' l L' → L = L'
  | [], L, L', _, h, h' => by rw [List.eq_nil_of_length_eq_zero h.1.symm, List.eq_nil_of_length_eq_zero h'.1.symm]
  | v :: l, L, L', hs, h, h' => by
    obtain ⟨W, M, rfl, a1, a2⟩ := h.head
    obtain ⟨W', M', rfl, b1, b2⟩ := h'.head
    rw [strs_same (fun v hv => hs v (.tail _ hv)) a2 b2]
    have hv := hs v (.head _)
    unfold strB at hv
    split at hv <;> first | (cases hv; done) | skip
    cases a1 with
    | str e => cases b1 with
      | str e' => rw [bytesN_inj (e.trans e'.symm)]
theorem str3_ok {H : T O} (h : str3 H = true) : ∃ p, Live H 3 p ∧ ∀ {E : Env} {c : Nat × Nat} {ob : Obj}, OR E p c ob → ∃ L, ob = .cells L 568 ∧ VRs (E.ren [] []) strs L.toList := by
  unfold str3 at h
  cases hg : hget H 3 with
  | none => rw [hg] at h; cases h
  | some p =>
    rw [hg] at h
    refine ⟨p, ⟨hg, (mO_dead h).2⟩, fun {E c ob} hv => ?_⟩
    have := mO_ok h hv
    cases this with | cells _ e => exact ⟨_, rfl, e⟩

section
variable {N : Int}
theorem pParse_ok {e : Ent} (he : parseB e = true) {args : List V} {s s' : SM} {v : V} (h : pParse e args s = some (v, s')) : Ans (IT N) 78 args s v s' := by
  unfold pParse at h
  split at h <;> first | (cases h; done) | skip
  rename_i l H nx m
  obtain ⟨h1, h⟩ := ck_eq h
  obtain ⟨h2, h⟩ := ck_eq h
  obtain ⟨h3, h⟩ := ck_eq h
  rw [fN_eq] at h
  obtain ⟨vs, hvs, h⟩ := ob_eq h
  obtain ⟨H', hH', h⟩ := ob_eq h
  rw [fN_eq] at h
  cases h
  obtain rfl := eqL_ok h1
  have h8 : 8 ≤ nx := Nat.le_of_ble_eq_true h2
  -- the run
  unfold parseB at he
  obtain ⟨H0, hH0, r, hr, hres⟩ : ∃ H0, mkH [(3, .cells 568 strs)] = some H0 ∧ ∃ r, cnP 100 78 [.str e.q] ⟨H0, 8, ()⟩ = some r ∧ resB e r = true := by
    cases e1 : mkH [(3, .cells 568 strs)] with
    | none => rw [e1] at he; cases he
    | some H0 =>
      rw [e1] at he
      cases e2 : cnP 100 78 [.str e.q] ⟨H0, 8, ()⟩ with
      | none => dsimp only [ob] at he; rw [e2] at he; cases he
      | some r =>
        dsimp only [ob] at he; rw [e2] at he
        dsimp only [ck] at he
        cases e3 : resB e r with
        | false => rw [e3] at he; cases he
        | true => exact ⟨H0, rfl, r, e2, e3⟩
  intro K E w A hS hA
  obtain ⟨F, hF, hG, hlv⟩ := hS.inv
  obtain ⟨c, f, L, g⟩ := id hF
  obtain ⟨X, rfl, hx⟩ := args1 hA
  obtain ⟨p3, l3, o3⟩ := str3_ok h3
  have blt : ∀ {b : Nat} {x : Obj}, w.heap[b]? = some x → b < w.heap.size := fun hb => lt_of_block hb
  have b3 : ∃ n ob, E.blk 3 = some (3, (0, n)) ∧ w.heap[3]? = some ob ∧ OR E p3 (0, n) ob := by
    obtain ⟨n, hn⟩ := hS.glob 3 (by decide)
    obtain ⟨ob, q1, q2⟩ := hS.at l3 hn
    exact ⟨n, ob, hn, q1, q2⟩
  obtain ⟨n3, ob3, e3, w3, r3⟩ := b3
  obtain ⟨L3, rfl, s3⟩ := o3 r3
  have z12 : 2 < w.heap.size := by
    have := (g.tabs.1.1.2 0 (by decide)).1
    rcases Nat.lt_or_ge 2 w.heap.size with h | h
    · exact h
    · simp [World.cell?, Array.getElem?_eq_none h] at this
  -- the parser's own view
  obtain ⟨KP, hKP⟩ : ∃ KP : Keep, KP = ⟨w.os, w.tape, w.output, w.heap.size, fun b => if b = 1 ∨ b = 2 ∨ b = 3 then none else w.heap[b]?⟩ := ⟨_, rfl⟩
  obtain ⟨E0, hE0⟩ : ∃ E0 : Env, E0 = ⟨fun id => if id < 8 then E.blk id else none, fun _ => none, 8⟩ := ⟨_, rfl⟩
  have eb0 : ∀ {id}, id < 8 → E0.blk id = E.blk id := fun {id} h => by rw [hE0]; exact if_pos h
  have hH3 : ∀ {id o}, Live H0 id o → id = 3 ∧ o = .cells 568 strs := fun {id o} l => by
    have := mkH_mem hH0 l.1
    simpa using this
  have hS0 : Sim (IP w) KP E0 H0 8 () w :=
    { os := by rw [hKP], tape := by rw [hKP], output := by rw [hKP], size := by rw [hKP]; exact Nat.le_refl _
      fresh := fun id hid => by rw [hE0]; exact if_neg (by omega)
      low := Nat.le_refl _
      top := by rw [hE0]
      glob := fun g hg => by rw [eb0 hg]; exact hS.glob g hg
      heap := fun {id o} l => by
        obtain ⟨rfl, rfl⟩ := hH3 l
        exact ⟨3, (0, n3), _, by rw [eb0 (by decide)]; exact e3, w3, .cells rfl (by
          refine ⟨s3.1, fun i v W a b => ?_⟩
          have hv := allB_ok strs_str v (List.mem_of_getElem? a)
          have := s3.2 i v W a b
          unfold strB at hv
          split at hv <;> first | (cases hv; done) | skip
          cases this with | str e => exact .str e)⟩
      inj := fun {id id' o o' b c c'} l l' _ _ => by rw [(hH3 l).1, (hH3 l').1]
      frame := fun {b ob} g => by
        rw [hKP] at g
        dsimp only at g
        split at g
        · cases g
        · exact g
      apart := fun {id o b c} l e => by
        obtain ⟨rfl, _⟩ := hH3 l
        rw [eb0 (by decide), e3] at e; cases e
        rw [hKP]; simp
      inv := ⟨fun b => b = 1 ∨ b = 2, ⟨g.tabs.1.1, rfl, rfl, z12, fun _ => Iff.rfl⟩, fun b hb => by rw [hKP]; exact if_pos (by rcases hb with rfl | rfl <;> simp), fun {id o b c} l e => by
        obtain ⟨rfl, _⟩ := hH3 l
        rw [eb0 (by decide), e3] at e; cases e
        omega⟩ }
  obtain ⟨rv, s1⟩ := r
  refine (cnP_ok 100 hr hS0 (A := #[X]) (.cons (by cases hx with | str e => exact .str e) .nil)).mono ?_
  rintro ee w' ⟨W, E1, rfl, hle1, hv1, hS1⟩
  -- what it answers
  unfold resB at hres
  cases rv <;> first | (cases hres; done) | skip
  rename_i l1
  obtain ⟨m1, hres⟩ := an_ok hres
  obtain ⟨m2, hres⟩ := an_ok hres
  obtain ⟨m3, m4⟩ := an_ok hres
  have hobj : ∀ {x : Nat × O}, x ∈ e.hl → 8 ≤ x.1 ∧ ∃ j p, rn e.ρ x.1 = some j ∧ Live s1.H j p ∧ mWO e.ρ x.2 p = true := fun {x} hx => by
    obtain ⟨a1, a2⟩ := an_ok (allB_ok m4 x hx)
    refine ⟨Nat.le_of_ble_eq_true a1, ?_⟩
    cases hr : rn e.ρ x.1 with
    | none => rw [hr] at a2; cases a2
    | some j =>
      rw [hr] at a2
      dsimp only at a2
      cases hg : hget s1.H j with
      | none => rw [hg] at a2; cases a2
      | some p => rw [hg] at a2; exact ⟨j, p, rfl, ⟨hg, mWO_dead a2⟩, a2⟩
  obtain ⟨p4, l4, o4⟩ := str3_ok m3
  have e13 : E1.blk 3 = some (3, (0, n3)) := hle1.blk (by rw [eb0 (by decide)]; exact e3)
  -- all elder blocks are as they were
  have hold : ∀ b, b < w.heap.size → w'.heap[b]? = w.heap[b]? := fun b hb => by
    obtain ⟨F1, ⟨_, t1, t2, _, _⟩, _⟩ := hS1.inv
    by_cases c1 : b = 1
    · subst c1; exact t1
    by_cases c2 : b = 2
    · subst c2; exact t2
    by_cases c3 : b = 3
    · subst c3
      obtain ⟨ob4, q1, q2⟩ := hS1.at l4 e13
      obtain ⟨L4, rfl, s4⟩ := o4 q2
      have : L3 = L4 := by
        have := strs_same (fun v hv => allB_ok strs_str v hv) s3 s4
        exact Array.toList_inj.1 this
      rw [q1, w3, this]
    · obtain ⟨o, ho⟩ : ∃ o, w.heap[b]? = some o := ⟨_, Array.getElem?_eq_getElem hb⟩
      rw [ho]
      exact hS1.frame (by rw [hKP]; show (if b = 1 ∨ b = 2 ∨ b = 3 then none else w.heap[b]?) = _; rw [if_neg (by omega)]; exact ho)
  have hz : w.heap.size ≤ w'.heap.size := by have := hS1.size; rw [hKP] at this; exact this
  have hB : Below w.heap.size w w' := ⟨by rw [hS1.os, hKP], by rw [hS1.tape, hKP], by rw [hS1.output, hKP], hz, fun b hb => hold b hb⟩
  -- new names' blocks are new
  have hnew : ∀ {j : Nat} {p : O} {b : Nat} {cc : Nat × Nat}, Live s1.H j p → 8 ≤ j → E1.blk j = some (b, cc) → w.heap.size ≤ b := fun {j p b cc} lj h8j eb => by
    rcases Nat.lt_or_ge b w.heap.size with hb | hb
    · have hap := hS1.apart lj eb
      rw [hKP] at hap
      dsimp only at hap
      by_cases c : b = 1 ∨ b = 2 ∨ b = 3
      · obtain ⟨F1, ⟨_, _, _, _, t5⟩, _, t7⟩ := hS1.inv
        rcases c with rfl | rfl | rfl
        · exact absurd ((t5 1).2 (.inl rfl)) (t7 lj eb)
        · exact absurd ((t5 2).2 (.inr rfl)) (t7 lj eb)
        · have := hS1.inj lj l4 eb e13; omega
      · rw [if_neg c, Array.getElem?_eq_getElem hb] at hap; cases hap
    · exact hb
  -- all names together
  obtain ⟨E', hE'⟩ : ∃ E' : Env, E' = ⟨fun id => if id < nx then E.blk id else (e.ρ[id - nx]?).bind E1.blk, E.sy, nx + e.ρ.length⟩ := ⟨_, rfl⟩
  have elo : ∀ {id}, id < nx → E'.blk id = E.blk id := fun {id} h => by rw [hE']; exact if_pos h
  have hlt : ∀ {id x}, E.blk id = some x → id < nx := fun {id x} h => by
    rcases Nat.lt_or_ge id nx with h' | h'
    · exact h'
    · rw [hS.fresh id h'] at h; cases h
  have hle : E.le E' := ⟨fun {id x} h => by rw [elo (hlt h)]; exact h, fun {s n} h => by rw [hE']; exact h, by rw [hE', hS.top]; exact Nat.le_add_right _ _, fun {j} h hj => by
    rw [hS.top] at hj; rw [elo hj]; exact h⟩
  have hsh : ∀ i x, (E1.ren e.ρ []).blk i = some x → E'.blk (shN (nx - 8) i) = some x := fun i x h => by
    have h : (rn e.ρ i).bind E1.blk = some x := h
    unfold shN bq
    by_cases hi : i < 8
    · rw [show Nat.blt i 8 = true from Nat.ble_eq_true_of_le hi]
      rw [rn_eq, if_pos hi] at h
      show E'.blk i = some x
      rw [elo (by omega)]
      obtain ⟨n, hn⟩ := hS.glob i hi
      have h9 : E1.blk i = some (i, (0, n)) := hle1.blk (by rw [eb0 hi]; exact hn)
      have h : E1.blk i = some x := h
      rw [h9] at h; rw [hn]; exact h
    · rw [show Nat.blt i 8 = false from Bool.eq_false_iff.2 fun e => hi (Nat.le_of_ble_eq_true e)]
      rw [rn_eq, if_neg hi] at h
      show E'.blk (i + (nx - 8)) = some x
      rw [hE']
      dsimp only
      rw [if_neg (by omega), show i + (nx - 8) - nx = i - 8 by omega]; exact h
  have hll : llen e.ρ = e.ρ.length := llen_eq _
  have hnewO : ∀ {id : Nat} {o : O}, (∃ x ∈ e.hl, id = x.1 + (nx - 8) ∧ shO (nx - 8) x.2 = some o) → nx ≤ id ∧ ∃ i j p b cc ob, id = i + (nx - 8) ∧ 8 ≤ i ∧ rn e.ρ i = some j ∧ Live s1.H j p ∧ 8 ≤ j ∧ E1.blk j = some (b, cc) ∧ E'.blk id = some (b, cc) ∧ w'.heap[b]? = some ob ∧ OR E' o cc ob ∧ w.heap.size ≤ b := fun {id o} ⟨x, hx, hid, hso⟩ => by
    obtain ⟨h8i, j, p, hr, lj, hm⟩ := hobj hx
    obtain ⟨b, cc, ob, q1, q2, q3⟩ := hS1.heap lj
    have h8j : 8 ≤ j := by
      rw [rn_eq, if_neg (by omega)] at hr
      exact (onceB_ok m2).2 _ (List.mem_of_getElem? hr)
    have hren : (E1.ren e.ρ []).blk x.1 = some (b, cc) := by
      show (rn e.ρ x.1).bind E1.blk = _
      rw [hr]; exact q1
    have hb := hsh _ _ hren
    unfold shN bq at hb
    rw [show Nat.blt x.1 8 = false from Bool.eq_false_iff.2 fun e => by have := Nat.le_of_ble_eq_true e; omega] at hb
    exact ⟨by omega, x.1, j, p, b, cc, ob, hid, h8i, hr, lj, h8j, q1, by rw [hid]; exact hb, q2, shO_ok hso (mWO_ok hm q3) hsh, hnew lj h8j q1⟩
  have hlow : ∀ {id : Nat} {o : O}, Live H id o → id < nx := fun l => hS.live_lt l
  have hvr : VR E' (.tup vs) W := by
    obtain ⟨LW, rfl, hl1⟩ := hv1.tup_inv
    exact VRs.tup (shL_ok hvs (mWs_ok m1 hl1).2 hsh).2
  refine ⟨W, E', rfl, hle, hvr, ?_⟩
  have hSB := hS.below hB
  refine { os := hSB.os, tape := hSB.tape, output := hSB.output, size := hSB.size, fresh := fun id hid => ?_, low := Nat.le_trans h8 (Nat.le_add_right _ _), top := by rw [hE', hll], glob := fun g hg => by rw [elo (by omega)]; exact hS.glob g hg, heap := fun {id o} lv => ?_, inj := fun {id id' o o' b c c'} lv lv' q q' => ?_, frame := hSB.frame, apart := fun {id o b c} lv q => ?_, inv := ⟨F, (IT N).loc hF hle.sub (by rw [hE']) hz (fun b hb => hold b ((IT N).lt hF hb)), hG, fun {id o b c} lv q => ?_⟩ }
  · have hid : nx + llen e.ρ ≤ id := hid
    rw [hE']
    dsimp only
    rw [if_neg (by omega), List.getElem?_eq_none (by omega)]; rfl
  · rcases layH_ok hH' lv with n | lo
    · obtain ⟨_, i, j, p, b, cc, ob, _, _, _, _, _, _, q2, q3, q4, _⟩ := hnewO n
      exact ⟨b, cc, ob, q2, q3, q4⟩
    · obtain ⟨b, cc, ob, q1, q2, q3⟩ := hSB.heap lo
      exact ⟨b, cc, ob, hle.blk q1, q2, q3.mono hle⟩
  · rcases layH_ok hH' lv with n | lo
    · obtain ⟨_, i, j, p, b1, cc, ob, x1, _, x2, x3, _, x4, x5, _, _, x6⟩ := hnewO n
      rw [x5] at q; cases q
      rcases layH_ok hH' lv' with n' | lo'
      · obtain ⟨_, i', j', p', b2, cc', ob', y1, _, y2, y3, _, y4, y5, _, _, _⟩ := hnewO n'
        rw [y5] at q'; cases q'
        have := hS1.inj x3 y3 x4 y4
        subst this
        have := rn_inj m2 x2 y2
        omega
      · rw [elo (hlow lo')] at q'
        obtain ⟨b0, c0, ob0, k1, k2, _⟩ := hS.heap lo'
        rw [q'] at k1; cases k1
        have := blt k2; omega
    · rw [elo (hlow lo)] at q
      rcases layH_ok hH' lv' with n' | lo'
      · obtain ⟨_, i', j', p', b2, cc', ob', y1, _, y2, y3, _, y4, y5, _, _, y6⟩ := hnewO n'
        rw [y5] at q'; cases q'
        obtain ⟨b0, c0, ob0, k1, k2, _⟩ := hS.heap lo
        rw [q] at k1; cases k1
        have := blt k2; omega
      · rw [elo (hlow lo')] at q'
        exact hS.inj lo lo' q q'
  · rcases layH_ok hH' lv with n | lo
    · obtain ⟨_, i, j, p, b1, cc, ob, x1, _, x2, x3, _, x4, x5, _, _, x6⟩ := hnewO n
      rw [x5] at q; cases q
      cases hx : K.G b with
      | none => rfl
      | some y => have := blt (hS.frame hx); omega
    · rw [elo (hlow lo)] at q; exact hS.apart lo q
  · rcases layH_ok hH' lv with n | lo
    · obtain ⟨_, i, j, p, b1, cc, ob, x1, _, x2, x3, _, x4, x5, _, _, x6⟩ := hnewO n
      rw [x5] at q; cases q
      exact fun hb => by have := (IT N).lt hF hb; omega
    · rw [elo (hlow lo)] at q; exact hlv lo q
end
end X
end Go.Proofs.YtnkjnclpakfgnaaGreatDoor
namespace Go.Proofs.YtnkjnclpakfgnaaGreatDoor
namespace X
open Go.RowKit
set_option maxRecDepth 100000

theorem stS_m {last left cc : Nat} {lit : Bool} {pages : List (List Nat)} {l1 l2 : List (Nat × Nat)} {y : St} (h : stS last left cc lit pages l1 l2 = some y) :
    ∃ pgs ky rest, y.m = mmS left cc pgs ky ∧ y.hl = baseS last rest := by
  obtain ⟨pgs, _, h⟩ := ob_eq h
  split at h
  · cases h; exact ⟨_, _, _, rfl, rfl⟩
  · obtain ⟨es, _, h⟩ := ob_eq h
    obtain ⟨ky, _, h⟩ := ob_eq h
    simp only [fN_eq] at h
    cases h; exact ⟨_, _, _, rfl, rfl⟩
  · simp only [fN_eq] at h
    obtain ⟨e1, _, h⟩ := ob_eq h
    obtain ⟨e2, _, h⟩ := ob_eq h
    obtain ⟨y0, _, h⟩ := ob_eq h
    obtain ⟨y1, _, h⟩ := ob_eq h
    obtain ⟨y2, _, h⟩ := ob_eq h
    obtain ⟨y12, _, h⟩ := ob_eq h
    obtain ⟨ky, _, h⟩ := ob_eq h
    cases h; exact ⟨_, _, _, rfl, rfl⟩

/-- The store stands as y tells; desk at block db; symbol 2 is v. -/
def StAt (N : Int) (K : Keep) (y : St) (db : Nat) (v : Int) (w : World) : Prop :=
  ∃ (E : Env) (H : T O), mkH y.hl = some H ∧ Sim (IT N) K E H y.nx y.m w ∧ (∃ c : Nat × Nat, E.blk 8 = some (db, c) ∧ c.1 = 0) ∧ E.sy 2 = some v

theorem bq3 {a b c x : Bool} (h : bq a x (bq b x c) = true) : x = true ∨ (a = true ∧ b = true ∧ c = true) := by
  cases a <;> cases b <;> first | exact .inl h | exact .inr ⟨rfl, rfl, h⟩
theorem oneMore_ok {q : Nat} : ∀ {sm : List (Nat × V × V)}, oneMore q sm = true → ∃ k k', (q, V.sym k 2, V.int k' (.ofNat 1)) ∈ sm
  | [], h => by cases h
  | (p, a, b) :: l, h => by
    have h : (match ((p, a, b) : Nat × V × V) with
      | (p, .sym _ u, .int _ (.ofNat n)) => bq (Nat.beq p q) (oneMore q l) (bq (Nat.beq u 2) (oneMore q l) (Nat.beq n 1))
      | _ => oneMore q l) = true := h
    have go : oneMore q l = true → ∃ k k', (q, V.sym k 2, V.int k' (.ofNat 1)) ∈ (p, a, b) :: l := fun h => by
      obtain ⟨k, k', h⟩ := oneMore_ok h
      exact ⟨k, k', .tail _ h⟩
    split at h
    · rename_i p' k u k' n e
      cases e
      rcases bq3 h with h | ⟨h1, h2, h3⟩
      · exact go h
      · obtain rfl := Nat.eq_of_beq_eq_true h1
        obtain rfl := Nat.eq_of_beq_eq_true h2
        obtain rfl := Nat.eq_of_beq_eq_true h3
        exact ⟨k, k', .head _⟩
    · exact go h
/-- One more than symbol 2. -/
theorem onePlus_ok {N : Int} {K : Keep} {E : Env} {H : T O} {nx : Nat} {m : MM} {w : World} (hS : Sim (IT N) K E H nx m w) {v : Int} (hv : E.sy 2 = some v) {q : Nat} (h : oneMore q m.sm = true) : E.sy q = some (v + 1) := by
  obtain ⟨F, ⟨c, f, L, g⟩, _⟩ := hS.inv
  obtain ⟨k, k', hm⟩ := oneMore_ok h
  obtain ⟨a, b, h1, h2, h3⟩ := g.sm _ hm
  cases h1 with
  | sym h1 =>
    rw [hv] at h1; cases h1
    cases h2
    exact h3

/-- What is told of symbols at rest. -/
def Fix (m : MM) : Prop := m.t.fuel = 1 ∧ ((m.bd = [(2, 1000)] ∧ m.sm = [] ∧ m.ns = 3) ∨ (m.bd = [(2, 1000), (3, 1001)] ∧ m.sm = [(3, .sym .i64 2, .int .i64 (.ofNat 1))] ∧ m.ns = 4))
theorem fix_mmS {left c : Nat} {pgs : List PgM} {ky : List (Nat × V)} : Fix (mmS left (c + 1) pgs ky) := by
  cases c with
  | zero => exact ⟨rfl, .inl ⟨rfl, rfl, rfl⟩⟩
  | succ c => exact ⟨rfl, .inr ⟨rfl, rfl, rfl⟩⟩
/-- 0 or 1. -/
def stp (d : Nat) : Int := if d = 0 then 0 else 1
theorem symB_ok {N : Int} {K : Keep} {E : Env} {s : SM} {w : World} (hS : Sim (IT N) K E s.H s.nx s.m w) {v : Int} (hv : E.sy 2 = some v) {d : Nat} {ρ : List Nat} {σ : List V} (h : symB d σ (smS s) = true) :
    (E.ren ρ σ).sy 2 = some (v + stp d) ∧ (σ.length = 4 → (E.ren ρ σ).sy 3 = some (v + stp d + 1)) := by
  have sy : ∀ {i q : Nat} {k : IntKind}, lget i σ = some (V.sym k q) → (E.ren ρ σ).sy i = E.sy q := fun {i q k} e => by show (lget i σ).bind (valS E) = _; rw [e]; rfl
  have hsm : smS s = s.m.sm := rfl
  rw [hsm] at h
  cases d with
  | zero =>
    obtain ⟨h1, h2⟩ := an_ok h
    constructor
    · cases e : lget 2 σ with
      | none => rw [e] at h1; cases h1
      | some u =>
        rw [e] at h1
        cases u <;> first | (cases h1; done) | skip
        rename_i k q
        obtain rfl : q = 2 := Nat.eq_of_beq_eq_true h1
        rw [sy e, hv]; simp [stp]
    · intro hl
      cases e : lget 3 σ with
      | none => rw [lget_eq] at e; rw [List.getElem?_eq_none_iff] at e; omega
      | some u =>
        rw [e] at h2
        cases u <;> first | (cases h2; done) | skip
        rename_i k q
        rw [sy e, onePlus_ok hS hv h2]; simp [stp]
  | succ d =>
    obtain ⟨h1, h2⟩ := an_ok h
    constructor
    · cases e : lget 2 σ with
      | none => rw [e] at h1; cases h1
      | some u =>
        rw [e] at h1
        cases u <;> first | (cases h1; done) | skip
        rename_i k q
        rw [sy e, onePlus_ok hS hv h1]; simp [stp]
    · intro hl
      cases e : lget 3 σ with
      | none => rw [lget_eq] at e; rw [List.getElem?_eq_none_iff] at e; omega
      | some u => rw [e] at h2; cases h2

theorem isSt_ok {N : Int} {K : Keep} {E : Env} {s : SM} {w : World} (hS : Sim (IT N) K E s.H s.nx s.m w) (hN : N + 1 ≤ 1099511627776) {v : Int} (hv : E.sy 2 = some v) (h0 : 0 ≤ v) (h1 : v ≤ 900) {db : Nat} {c : Nat × Nat} (hb : E.blk 8 = some (db, c)) (hc : c.1 = 0)
    {y : St} {d : Nat} (hH : ∃ H, mkH y.hl = some H) (hy : Fix y.m) (h : isSt 8 y s (fun σ => symB d σ (smS s)) = true) : StAt (N + 1) K y db (v + stp d) w := by
  unfold isSt at h
  cases hr : bindA 8 y s with
  | none => rw [hr] at h; cases h
  | some r =>
    obtain ⟨ρ, σ⟩ := r
    obtain ⟨hl, nx, m2⟩ := y
    obtain ⟨H2, hH⟩ := hH
    have HS := Lib.hid hS
    obtain ⟨H, nx0, m⟩ := s
    rw [hr] at h
    obtain ⟨g0, h⟩ := an_ok h
    obtain ⟨g1, h⟩ := an_ok h
    obtain ⟨g2, h⟩ := an_ok h
    obtain ⟨g3, h⟩ := an_ok h
    obtain ⟨g4, h⟩ := an_ok h
    obtain ⟨g5, g6⟩ := an_ok h
    obtain ⟨q1, q2⟩ := symB_ok (ρ := ρ) HS.out hv g6
    have e0 : lget 0 ρ = some 8 := by
      cases e : lget 0 ρ with
      | none => rw [e] at g0; cases g0
      | some x => rw [e] at g0; rw [Nat.eq_of_beq_eq_true g0]
    have e4 : 8 + ρ.length = nx := by have := Nat.eq_of_beq_eq_true g4; rwa [llen_eq] at this
    obtain ⟨hf, hy⟩ := hy
    have hf : m2.t.fuel = 1 := hf
    have e5 : σ.length = m2.ns := by
      have : llen σ = m2.ns := Nat.eq_of_beq_eq_true g5
      rwa [llen_eq] at this
    have hst : stp d = 0 ∨ stp d = 1 := by unfold stp; split <;> simp
    subst e4
    refine ⟨E.ren ρ σ, H2, hH, Sim.ren HS.out hH g1 g2 g3 (by rw [hf]; omega) hN ?_ ?_, ?_, q1⟩
    · intro x hx
      rcases hy with ⟨y1, y2, y3⟩ | ⟨y1, y2, y3⟩
      · rw [show m2.bd = _ from y1] at hx
        simp only [List.mem_cons, List.not_mem_nil, or_false] at hx
        subst hx
        exact ⟨_, q1, by simp; omega, by simp; omega⟩
      · rw [show m2.bd = _ from y1] at hx
        simp only [List.mem_cons, List.not_mem_nil, or_false] at hx
        rcases hx with rfl | rfl
        · exact ⟨_, q1, by simp; omega, by simp; omega⟩
        · exact ⟨_, q2 (e5.trans y3), by simp; omega, by simp; omega⟩
    · intro x hx
      rcases hy with ⟨y1, y2, y3⟩ | ⟨y1, y2, y3⟩
      · rw [show m2.sm = _ from y2] at hx; cases hx
      · rw [show m2.sm = _ from y2] at hx
        simp only [List.mem_cons, List.not_mem_nil, or_false] at hx
        subst hx
        exact ⟨_, _, .sym q1, .int _ _, q2 (e5.trans y3)⟩
    · refine ⟨c, ?_, hc⟩
      show (rn ρ 8).bind E.blk = _
      rw [rn_eq, if_neg (by omega)]
      rw [lget_eq] at e0
      rw [e0]; exact hb

theorem cn_ok {N : Int} (k : Nat) : CallOk (IT N) Tryz.prog (cn k) := callN_ok hplain (fun hcf n => drR_ok hplain hmix hcf n) plugs_ok k

theorem agg_four {E : Env} {a b c d : V} {W : Value} (h : VR E (.agg [a, b, c, d]) W) : ∃ x1 x2 x3 x4, W = .agg #[x1, x2, x3, x4] ∧ VR E a x1 ∧ VR E b x2 ∧ VR E c x3 ∧ VR E d x4 := by
  obtain ⟨L, rfl, h0⟩ := h.agg_inv
  clear h
  obtain ⟨x1, m, e1, p1, h⟩ := h0.head
  obtain ⟨x2, m, rfl, p2, h⟩ := h.head
  obtain ⟨x3, m, rfl, p3, h⟩ := h.head
  obtain ⟨x4, m, rfl, p4, h⟩ := h.head
  cases m with
  | nil => exact ⟨x1, x2, x3, x4, by rw [← Array.toArray_toList (xs := L), e1], p1, p2, p3, p4⟩
  | cons _ _ => exact absurd h.1 (by simp)
theorem kindV_ok {E : Env} {v : V} {W : Value} {c : Nat} (h : kindV v = some c) (hv : VR E v W) : ∃ x y z, O3 x y z ∧ W = .agg #[.int .i64 c, x, y, z] := by
  unfold kindV at h
  split at h <;> first | (cases h; done) | skip
  obtain ⟨h1, h⟩ := ck_eq h
  obtain ⟨h2, h⟩ := ck_eq h
  obtain ⟨h3, h⟩ := ck_eq h
  obtain ⟨h4, h⟩ := ck_eq h
  cases h
  rw [kno_inj (k' := .i64) h1] at hv
  obtain ⟨x1, x2, x3, x4, rfl, p, p2, p3, p4⟩ := agg_four hv
  cases p
  exact ⟨_, _, _, ⟨one_ok p2 h2, one_ok p3 h3, one_ok p4 h4⟩, rfl⟩
theorem okA_ok {E : Env} {v : V} {W : Value} (h : okA v = true) (hv : VR E v W) : ∃ x y z, O3 x y z ∧ W = .tuple #[.agg #[.int .i64 0, x, y, z], .int .i64 0] := by
  unfold okA at h
  split at h <;> first | (cases h; done) | skip
  obtain ⟨h1, h⟩ := an_ok h
  obtain ⟨h2, h⟩ := an_ok h
  obtain ⟨h3, h⟩ := an_ok h
  obtain ⟨h4, h⟩ := an_ok h
  obtain ⟨h5, h⟩ := an_ok h
  obtain ⟨h6, h7⟩ := an_ok h
  rw [kno_inj (k' := .i64) h1, kno_inj (k' := .i64) h2, Nat.eq_of_beq_eq_true h3, Nat.eq_of_beq_eq_true h4] at hv
  obtain ⟨L, rfl, h0⟩ := hv.tup_inv
  clear hv
  obtain ⟨x1, m, e1, p1, h⟩ := h0.head
  obtain ⟨x2, m, rfl, p2, h⟩ := h.head
  obtain ⟨y1, y2, y3, y4, rfl, p, q2, q3, q4⟩ := agg_four p1
  cases p; cases p2
  cases m with
  | nil => exact ⟨_, _, _, ⟨one_ok q2 h5, one_ok q3 h6, one_ok q4 h7⟩, by rw [← Array.toArray_toList (xs := L), e1]; rfl⟩
  | cons _ _ => exact absurd h.1 (by simp)

theorem deskP {E : Env} {db : Nat} {c : Nat × Nat} (hb : E.blk 8 = some (db, c)) (hc : c.1 = 0) : VR E (.ptr 8 0) (.pointer (some ⟨db, 0, none⟩)) := by
  have := VR.ptr (off := 0) hb
  rw [hc] at this; exact this

theorem swps_ok {N : Int} {K : Keep} {db : Nat} {Q : World → Prop} {s' : SM} : ∀ {n : Nat} {s : SM} {E : Env} {w : World} {c : Nat × Nat}, swps n s = some s' → Sim (IT N) K E s.H s.nx s.m w → E.blk 8 = some (db, c) → c.1 = 0 →
    (∀ (E' : Env) (w' : World), E.le E' → Sim (IT N) K E' s'.H s'.nx s'.m w' → Q w') → Swp db n w Q
  | 0, _, _, _, _, h, _, _, _, _ => by cases h
  | n + 1, s, E, w, c, h, hS, hb, hc, hQ => by
    obtain ⟨r, hr, h⟩ := ob_eq h
    obtain ⟨k, hk, h⟩ := ob_eq h
    obtain ⟨v, s1⟩ := r
    intro w2 hB
    refine (cn_ok 100 hr (hS.below hB) (A := #[.pointer (some ⟨db, 0, none⟩)]) (.cons (deskP hb hc) .nil)).mono ?_
    rintro e w' ⟨W, E1, rfl, hle, hv, hS1⟩
    obtain ⟨x, y, z, ho, rfl⟩ := kindV_ok hk hv
    refine ⟨k, x, y, z, ho, rfl, ?_⟩
    unfold bq at h
    by_cases h4 : k = 4
    · subst h4
      rw [if_pos rfl]
      cases h
      exact hQ E1 w' hle hS1
    · rw [if_neg h4]
      have hf : Nat.beq k 4 = false := by cases e : Nat.beq k 4 with | false => rfl | true => exact absurd (Nat.eq_of_beq_eq_true e) h4
      rw [hf] at h
      exact swps_ok (n := n) h hS1 (hle.blk hb) hc (fun E' w' hle' hS' => hQ E' w' (hle.trans hle') hS')

end X
end Go.Proofs.YtnkjnclpakfgnaaGreatDoor
namespace Go.Proofs.YtnkjnclpakfgnaaGreatDoor
namespace X
open Go.RowKit
set_option maxRecDepth 100000

noncomputable def plugE (e : Ent) : CF MM → CF MM := fun cf f args s => bq (Nat.beq f 78) (plug cf f args s) (pParse e args s)
noncomputable def cnE (e : Ent) (k : Nat) : CF MM := callN Tryz.prog kp (fun cf n => drR Tryz.prog cf n) pls (plugE e) k
theorem plugE_ok {N : Int} {e : Ent} (he : parseB e = true) : PlugOk (IT N) Tryz.prog pls (plugE e) := by
  intro cf hcf f args s s' v hf h K E w A hS hA
  unfold plugE bq at h
  cases hb : Nat.beq f 78 with
  | false => rw [hb] at h; exact plugs_ok hcf hf h hS hA
  | true => rw [hb] at h; rw [Nat.eq_of_beq_eq_true hb]; exact pParse_ok he h hS hA
theorem cnE_ok {N : Int} {e : Ent} (he : parseB e = true) (k : Nat) : CallOk (IT N) Tryz.prog (cnE e k) := callN_ok hplain (fun hcf n => drR_ok hplain hmix hcf n) (plugE_ok he) k
noncomputable def doE (e : Ent) (s : SM) : Option (V × SM) := cnE e 100 17 [.ptr 8 0, .int .i64 (.ofNat 0), .str e.q] s
/-- A round: a statement, steps of the broom, and so it stands. -/
noncomputable def rdE (e : Ent) (a b : Option St) (n d : Nat) : Bool := (ob a fun x => ob (atS x) fun s => ob (doE e s) fun r => ck (okA r.1) (ob (swps n r.2) fun s => ob b fun y => ob (atS y) fun _ => ck (isSt 8 y s (fun σ => symB d σ (smS s))) (some 0))).rec false (fun _ => true)
theorem rdE_ok {e : Ent} (he : parseB e = true) {a b : Option St} {n d : Nat} (h : rdE e a b n d = true) (hy : ∀ y, b = some y → Fix y.m) :
    ∃ x y, a = some x ∧ b = some y ∧ ∀ {N : Int} {K : Keep} {db : Nat} {v : Int} {w : World} {S : ByteArray}, StAt N K x db v w → N + 1 ≤ 1099511627776 → 0 ≤ v → v ≤ 900 → bytesN S = e.q →
      Calls Tryz.prog 17 #[.pointer (some ⟨db, 0, none⟩), .int .i64 0, .string S] w fun e w' => ∃ x1 x2 x3, O3 x1 x2 x3 ∧ e = .returned (.tuple #[.agg #[.int .i64 0, x1, x2, x3], .int .i64 0]) ∧ Swp db n w' (StAt (N + 1) K y db (v + stp d)) := by
  unfold rdE at h
  have h : ∃ z, (ob a fun x => ob (atS x) fun s => ob (doE e s) fun r => ck (okA r.1) (ob (swps n r.2) fun s => ob b fun y => ob (atS y) fun _ => ck (isSt 8 y s (fun σ => symB d σ (smS s))) (some 0))) = some z := by
    cases ee : (ob a fun x => ob (atS x) fun s => ob (doE e s) fun r => ck (okA r.1) (ob (swps n r.2) fun s => ob b fun y => ob (atS y) fun _ => ck (isSt 8 y s (fun σ => symB d σ (smS s))) (some 0))) with
    | none => rw [ee] at h; cases h
    | some z => exact ⟨z, rfl⟩
  obtain ⟨z, h⟩ := h
  obtain ⟨x, hxa, h⟩ := ob_eq h
  obtain ⟨s, hs, h⟩ := ob_eq h
  obtain ⟨r, hr, h⟩ := ob_eq h
  obtain ⟨hok, h⟩ := ck_eq h
  obtain ⟨s2, hs2, h⟩ := ob_eq h
  obtain ⟨y, hyb, h⟩ := ob_eq h
  obtain ⟨sy, hsy, h⟩ := ob_eq h
  obtain ⟨hst, _⟩ := ck_eq h
  refine ⟨x, y, hxa, hyb, ?_⟩
  intro N K db v w S hx hN h0 h1 hS
  obtain ⟨E, H, hH, hSim, ⟨c, hb, hc⟩, hv⟩ := hx
  obtain ⟨hl, nx, m⟩ := x
  obtain ⟨H', hH', hs⟩ := ob_eq hs
  have hH : mkH hl = some H := hH
  rw [hH] at hH'; cases hH'
  cases hs
  obtain ⟨hly, nxy, my⟩ := y
  obtain ⟨Hy, hHy, _⟩ := ob_eq hsy
  obtain ⟨v1, s1⟩ := r
  refine (cnE_ok he 100 hr hSim (A := #[.pointer (some ⟨db, 0, none⟩), .int .i64 0, .string S]) (.cons (deskP hb hc) (.cons (.int _ _) (.cons (.str hS) .nil)))).mono ?_
  rintro ee w' ⟨W, E1, rfl, hle, hvr, hS1⟩
  obtain ⟨x1, x2, x3, ho, rfl⟩ := okA_ok hok hvr
  exact ⟨x1, x2, x3, ho, rfl, swps_ok hs2 hS1 (hle.blk hb) hc (fun E' w2 hle' hS' => isSt_ok hS' hN ((hle.trans hle').sy hv) h0 h1 ((hle.trans hle').blk hb) hc ⟨Hy, hHy⟩ (hy _ hyb) hst)⟩
end X
end Go.Proofs.YtnkjnclpakfgnaaGreatDoor
namespace Go.Proofs.YtnkjnclpakfgnaaGreatDoor
namespace X
open Go.RowKit
set_option maxRecDepth 100000

/-- The store stands as y tells; desk at block db. -/
def SAt (N : Int) (K : Keep) (y : St) (db : Nat) (w : World) : Prop :=
  ∃ (E : Env) (H : T O), mkH y.hl = some H ∧ Sim (IT N) K E H y.nx y.m w ∧ ∃ c : Nat × Nat, E.blk 8 = some (db, c) ∧ c.1 = 0
theorem StAt.sat {N : Int} {K : Keep} {y : St} {db : Nat} {v : Int} {w : World} (h : StAt N K y db v w) : SAt N K y db w := by
  obtain ⟨E, H, a, b, c, _⟩ := h; exact ⟨E, H, a, b, c⟩
/-- Nothing is told of sums. -/
noncomputable def bareB (m : MM) : Bool := match m with
  | ⟨_, ⟨_, fuel, _, _, _, _, _, _⟩, _, _, _, _, bd, sm⟩ => an (Nat.beq fuel 1) (an (Nat.beq (llen bd) 0) (Nat.beq (llen sm) 0))
theorem bareB_ok {m : MM} (h : bareB m = true) : m.t.fuel = 1 ∧ m.bd = [] ∧ m.sm = [] := by
  obtain ⟨_, ⟨_, _, _, _, _, _, _, _⟩, _, _, _, _, bd, sm⟩ := m
  obtain ⟨h1, h⟩ := an_ok h
  obtain ⟨h2, h3⟩ := an_ok h
  have h2 := Nat.eq_of_beq_eq_true h2
  have h3 := Nat.eq_of_beq_eq_true h3
  rw [llen_eq] at h2 h3
  exact ⟨Nat.eq_of_beq_eq_true h1, List.eq_nil_of_length_eq_zero h2, List.eq_nil_of_length_eq_zero h3⟩

/-- What isSt says of any root, whatever else is asked. -/
theorem isSt_gen {N N' : Int} {K : Keep} {E : Env} {s : SM} {w : World} (hS : Sim (IT N) K E s.H s.nx s.m w) (hN : N' ≤ 1099511627776) {root db : Nat} {c : Nat × Nat} (hb : E.blk root = some (db, c)) (_hc : c.1 = 0)
    {y : St} {f : List V → Bool} (hf : N + y.m.t.fuel ≤ N' + s.m.t.fuel) (hH : ∃ H, mkH y.hl = some H) (h : isSt root y s f = true)
    (hbs : ∀ ρ σ, f σ = true → σ.length = y.m.ns → (∀ x ∈ y.m.bd, ∃ n, (E.ren ρ σ).sy x.1 = some n ∧ -(x.2 : Int) ≤ n ∧ n ≤ x.2) ∧ (∀ x ∈ y.m.sm, ∃ a b, VR (E.ren ρ σ) x.2.1 (.int .i64 a) ∧ VR (E.ren ρ σ) x.2.2 (.int .i64 b) ∧ (E.ren ρ σ).sy x.1 = some (a + b))) :
    ∃ ρ σ H, f σ = true ∧ mkH y.hl = some H ∧ Sim (IT N') K (E.ren ρ σ) H y.nx y.m w ∧ (E.ren ρ σ).blk 8 = some (db, c) := by
  unfold isSt at h
  cases hr : bindA root y s with
  | none => rw [hr] at h; cases h
  | some r =>
    obtain ⟨ρ, σ⟩ := r
    obtain ⟨hl, nx, m2⟩ := y
    obtain ⟨H2, hH⟩ := hH
    have HS := Lib.hid hS
    have HF := Lib.hid hf
    obtain ⟨H, nx0, m⟩ := s
    rw [hr] at h
    obtain ⟨g0, h⟩ := an_ok h
    obtain ⟨g1, h⟩ := an_ok h
    obtain ⟨g2, h⟩ := an_ok h
    obtain ⟨g3, h⟩ := an_ok h
    obtain ⟨g4, h⟩ := an_ok h
    obtain ⟨g5, g6⟩ := an_ok h
    have e0 : lget 0 ρ = some root := by
      cases e : lget 0 ρ with
      | none => rw [e] at g0; cases g0
      | some x => rw [e] at g0; rw [Nat.eq_of_beq_eq_true g0]
    have e4 : 8 + ρ.length = nx := by have := Nat.eq_of_beq_eq_true g4; rwa [llen_eq] at this
    have e5 : σ.length = m2.ns := by
      have : llen σ = m2.ns := Nat.eq_of_beq_eq_true g5
      rwa [llen_eq] at this
    obtain ⟨b1, b2⟩ := hbs ρ σ g6 e5
    subst e4
    refine ⟨ρ, σ, H2, g6, hH, Sim.ren HS.out hH g1 g2 g3 HF.out hN b1 b2, ?_⟩
    show (rn ρ 8).bind E.blk = _
    rw [rn_eq, if_neg (by omega)]
    rw [lget_eq] at e0
    rw [e0]; exact hb

/-- A statement, and so it stands. -/
noncomputable def stepB (e : Ent) (a b : Option St) : Bool := (ob a fun x => ob (atS x) fun s => ob (doE e s) fun r => ck (okA r.1) (ob b fun y => ob (atS y) fun _ => ck (bareB y.m) (ck (isSt 8 y r.2 (fun _ => true)) (some 0)))).rec false (fun _ => true)
theorem no_mem {α : Type} {l : List α} {x : α} {p : Prop} (h : l = []) (hx : x ∈ l) : p := by rw [h] at hx; cases hx
theorem ob_rec {α : Type} {o : Option α} (h : (o.rec false (fun _ => true) : Bool) = true) : ∃ z, o = some z := by
  cases o with
  | none => cases h
  | some z => exact ⟨z, rfl⟩
theorem stepB_ok {e : Ent} (he : parseB e = true) {a b : Option St} (h : stepB e a b = true) :
    ∃ x y, a = some x ∧ b = some y ∧ ∀ {N : Int} {K : Keep} {db : Nat} {w : World} {S : ByteArray}, SAt N K x db w → N + 1 ≤ 1099511627776 → bytesN S = e.q →
      Calls Tryz.prog 17 #[.pointer (some ⟨db, 0, none⟩), .int .i64 0, .string S] w fun e w' => (∃ x1 x2 x3, O3 x1 x2 x3 ∧ e = .returned (.tuple #[.agg #[.int .i64 0, x1, x2, x3], .int .i64 0])) ∧ SAt (N + 1) K y db w' := by
  obtain ⟨z, h⟩ := ob_rec h
  obtain ⟨x, hxa, h⟩ := ob_eq h
  obtain ⟨s, hs, h⟩ := ob_eq h
  obtain ⟨r, hr, h⟩ := ob_eq h
  obtain ⟨hok, h⟩ := ck_eq h
  obtain ⟨y, hyb, h⟩ := ob_eq h
  obtain ⟨sy, hsy, h⟩ := ob_eq h
  obtain ⟨hbare, h⟩ := ck_eq h
  obtain ⟨hst, _⟩ := ck_eq h
  refine ⟨x, y, hxa, hyb, ?_⟩
  intro N K db w S hx hN hS
  obtain ⟨E, H, hH, hSim, c, hb, hc⟩ := hx
  obtain ⟨hl, nx, m⟩ := x
  obtain ⟨H', hH', hs⟩ := ob_eq hs
  have hH : mkH hl = some H := hH
  rw [hH] at hH'; cases hH'
  cases hs
  obtain ⟨hly, nxy, my⟩ := y
  obtain ⟨Hy, hHy, _⟩ := ob_eq hsy
  obtain ⟨v1, s1⟩ := r
  refine (cnE_ok he 100 hr hSim (A := #[.pointer (some ⟨db, 0, none⟩), .int .i64 0, .string S]) (.cons (deskP hb hc) (.cons (.int _ _) (.cons (.str hS) .nil)))).mono ?_
  rintro ee w' ⟨W, E1, rfl, hle, hvr, hS1⟩
  obtain ⟨x1, x2, x3, ho, rfl⟩ := okA_ok hok hvr
  obtain ⟨f1, f2, f3⟩ := bareB_ok hbare
  obtain ⟨ρ, σ, H2, _, k1, k2, k3⟩ := isSt_gen hS1 hN (hle.blk hb) hc (y := ⟨hly, nxy, my⟩) (by have f1 : my.t.fuel = 1 := f1; show N + my.t.fuel ≤ _; rw [f1]; omega) ⟨Hy, hHy⟩ hst
    (fun ρ σ _ _ => ⟨fun x hx => no_mem f2 hx, fun x hx => no_mem f3 hx⟩)
  exact ⟨⟨x1, x2, x3, ho, rfl⟩, _, H2, k1, k2, c, k3, hc⟩

/-- The same, symbol 2 being 0. -/
noncomputable def zeroB (σ : List V) : Bool := (lget 2 σ).rec false (fun u => match u with | .int _ n => ieq n 0 | _ => false)
noncomputable def reB (a b : Option St) : Bool := (ob a fun x => ob (atS x) fun s => ob b fun y => ob (atS y) fun _ => ck (bareB x.m) (ck (isSt 8 y s zeroB) (some 0))).rec false (fun _ => true)
theorem reB_ok {a b : Option St} (h : reB a b = true) (hy : ∀ y, b = some y → y.m.t.fuel = 1 ∧ y.m.bd = [(2, 1000)] ∧ y.m.sm = []) :
    ∃ x y, a = some x ∧ b = some y ∧ ∀ {N : Int} {K : Keep} {db : Nat} {w : World}, SAt N K x db w → N ≤ 1099511627776 → StAt N K y db 0 w := by
  obtain ⟨z, h⟩ := ob_rec h
  obtain ⟨x, hxa, h⟩ := ob_eq h
  obtain ⟨s, hs, h⟩ := ob_eq h
  obtain ⟨y, hyb, h⟩ := ob_eq h
  obtain ⟨sy, hsy, h⟩ := ob_eq h
  obtain ⟨hbare, h⟩ := ck_eq h
  obtain ⟨hst, _⟩ := ck_eq h
  refine ⟨x, y, hxa, hyb, ?_⟩
  intro N K db w hx hN
  obtain ⟨E, H, hH, hSim, c, hb, hc⟩ := hx
  obtain ⟨f1, _, _⟩ := bareB_ok hbare
  obtain ⟨y1, y2, y3⟩ := hy y hyb
  obtain ⟨hl, nx, m⟩ := x
  obtain ⟨H', hH', hs⟩ := ob_eq hs
  have hH : mkH hl = some H := hH
  rw [hH] at hH'; cases hH'
  cases hs
  obtain ⟨hly, nxy, my⟩ := y
  obtain ⟨Hy, hHy, _⟩ := ob_eq hsy
  have key : ∀ ρ σ, zeroB σ = true → (E.ren ρ σ).sy 2 = some 0 := fun ρ σ hz => by
    unfold zeroB at hz
    show (lget 2 σ).bind (valS E) = some 0
    cases e : lget 2 σ with
    | none => rw [e] at hz; cases hz
    | some u =>
      rw [e] at hz
      cases u <;> first | (cases hz; done) | skip
      rename_i k n
      have hz : ieq n 0 = true := hz
      rw [ieq_eq] at hz
      rw [of_decide_eq_true hz]; rfl
  obtain ⟨ρ, σ, H2, k0, k1, k2, k3⟩ := isSt_gen (N' := N) hSim hN hb hc (y := ⟨hly, nxy, my⟩) (by have y1 : my.t.fuel = 1 := y1; have f1 : m.t.fuel = 1 := f1; show N + my.t.fuel ≤ N + m.t.fuel; rw [y1, f1]; exact Int.le_refl _) ⟨Hy, hHy⟩ hst
    (fun ρ σ hz _ => ⟨fun x hx => by
      have y2 : my.bd = [(2, 1000)] := y2
      have hx : x ∈ my.bd := hx
      rw [y2] at hx
      obtain rfl := List.mem_singleton.1 hx
      exact ⟨0, key ρ σ hz, by simp, by simp⟩, fun x hx => no_mem y3 hx⟩)
  exact ⟨_, H2, k1, k2, ⟨c, k3, hc⟩, key ρ σ k0⟩

/-! ### New, Open -/
noncomputable def m0 : MM := ⟨⟨0, 0, 0, []⟩, ⟨0, 0, false, 0, 0, 0, [], []⟩, [], [], [], 0, [], []⟩
noncomputable def deskV (v : V) (H : T O) : Option Nat := match v with
  | .tup [.ptr d o, .int k (.ofNat n)] => ck (Nat.beq o 0) (ck (Nat.beq (kno k) 3) (ck (Nat.beq n 0) (ob (hget H d) fun o => match o with | .cells _ _ => some d | _ => none)))
  | _ => none
noncomputable def twoZ (v : V) : Bool := match v with
  | .tup [.int k (.ofNat a), .int k' (.ofNat b)] => an (Nat.beq (kno k) 3) (an (Nat.beq (kno k') 3) (an (Nat.beq a 0) (Nat.beq b 0)))
  | _ => false
noncomputable def newSB (n : Nat) (b : Option St) : Bool := (ob (mkH [(3, .cells 568 strs)]) fun H => ob (cn 100 14 [.int .i64 (.ofNat n)] ⟨H, 8, m0⟩) fun r => ob (deskV r.1 r.2.H) fun d => ob (cn 100 15 [.ptr d 0] r.2) fun q => ck (twoZ q.1) (ob b fun y => ob (atS y) fun _ => ck (bareB y.m) (ck (isSt d y q.2 (fun _ => true)) (some 0)))).rec false (fun _ => true)
theorem deskV_ok {E : Env} {v : V} {H : T O} {d : Nat} {W : Value} (h : deskV v H = some d) (hv : VR E v W) : ∃ b c, E.blk d = some (b, c) ∧ W = .tuple #[.pointer (some ⟨b, c.1, none⟩), .int .i64 0] ∧ ∃ t l, Live H d (.cells t l) := by
  unfold deskV at h
  split at h <;> first | (cases h; done) | skip
  obtain ⟨h1, h⟩ := ck_eq h
  obtain ⟨h2, h⟩ := ck_eq h
  obtain ⟨h3, h⟩ := ck_eq h
  obtain ⟨o, ho, h⟩ := ob_eq h
  split at h <;> first | (cases h; done) | skip
  cases h
  rw [Nat.eq_of_beq_eq_true h1, kno_inj (k' := .i64) h2, Nat.eq_of_beq_eq_true h3] at hv
  obtain ⟨L, rfl, h0⟩ := hv.tup_inv
  clear hv
  obtain ⟨x1, m, e1, p1, h⟩ := h0.head
  obtain ⟨x2, m, rfl, p2, h⟩ := h.head
  cases m with
  | cons _ _ => exact absurd h.1 (by simp)
  | nil =>
    cases p2
    cases p1 with
    | ptr hb => exact ⟨_, _, hb, by rw [← Array.toArray_toList (xs := L), e1]; rfl, _, _, ho, by simp⟩
theorem twoZ_ok {E : Env} {v : V} {W : Value} (h : twoZ v = true) (hv : VR E v W) : W = .tuple #[.int .i64 0, .int .i64 0] := by
  unfold twoZ at h
  split at h <;> first | (cases h; done) | skip
  obtain ⟨h1, h⟩ := an_ok h
  obtain ⟨h2, h⟩ := an_ok h
  obtain ⟨h3, h4⟩ := an_ok h
  rw [kno_inj (k' := .i64) h1, kno_inj (k' := .i64) h2, Nat.eq_of_beq_eq_true h3, Nat.eq_of_beq_eq_true h4] at hv
  obtain ⟨L, rfl, h0⟩ := hv.tup_inv
  clear hv
  obtain ⟨x1, m, e1, p1, h⟩ := h0.head
  obtain ⟨x2, m, rfl, p2, h⟩ := h.head
  cases p1; cases p2
  cases m with
  | nil => rw [← Array.toArray_toList (xs := L), e1]; rfl
  | cons _ _ => exact absurd h.1 (by simp)
theorem newSB_ok {n : Nat} {b : Option St} (h : newSB n b = true) :
    ∃ y H, b = some y ∧ mkH [(3, .cells 568 strs)] = some H ∧ ∀ {N : Int} {K : Keep} {E : Env} {w : World}, Sim (IT N) K E H 8 m0 w → N + 1 ≤ 1099511627776 →
      Calls Tryz.prog 14 #[.int .i64 n] w fun e w1 => ∃ db, e = .returned (.tuple #[.pointer (some ⟨db, 0, none⟩), .int .i64 0]) ∧ ∀ w2, Below w1.heap.size w1 w2 →
        Calls Tryz.prog 15 #[.pointer (some ⟨db, 0, none⟩)] w2 fun e w3 => e = .returned (.tuple #[.int .i64 0, .int .i64 0]) ∧ SAt (N + 1) K y db w3 := by
  obtain ⟨z, h⟩ := ob_rec h
  obtain ⟨H, hH, h⟩ := ob_eq h
  obtain ⟨r, hr, h⟩ := ob_eq h
  obtain ⟨d, hd, h⟩ := ob_eq h
  obtain ⟨q, hq, h⟩ := ob_eq h
  obtain ⟨htz, h⟩ := ck_eq h
  obtain ⟨y, hyb, h⟩ := ob_eq h
  obtain ⟨sy, hsy, h⟩ := ob_eq h
  obtain ⟨hbare, h⟩ := ck_eq h
  obtain ⟨hst, _⟩ := ck_eq h
  refine ⟨y, H, hyb, hH, ?_⟩
  intro N K E w hS hN
  obtain ⟨v1, s1⟩ := r
  obtain ⟨v2, s2⟩ := q
  obtain ⟨hly, nxy, my⟩ := y
  obtain ⟨Hy, hHy, _⟩ := ob_eq hsy
  refine (cn_ok 100 hr hS (A := #[.int .i64 n]) (.cons (.int _ _) .nil)).mono ?_
  rintro e w1 ⟨W, E1, rfl, hle, hv, hS1⟩
  obtain ⟨db, c, hb, rfl, t, l, hl⟩ := deskV_ok hd hv
  have hc : c.1 = 0 := by
    obtain ⟨ob, _, q2⟩ := hS1.at hl hb
    cases q2; assumption
  refine ⟨db, by rw [hc], fun w2 hB => ?_⟩
  have hp : VR E1 (.ptr d 0) (.pointer (some ⟨db, 0, none⟩)) := by have := VR.ptr (off := 0) hb; rw [hc] at this; exact this
  refine (cn_ok 100 hq (hS1.below hB) (A := #[.pointer (some ⟨db, 0, none⟩)]) (.cons hp .nil)).mono ?_
  rintro e w3 ⟨W2, E2, rfl, hle2, hv2, hS2⟩
  rw [twoZ_ok htz hv2]
  refine ⟨rfl, ?_⟩
  obtain ⟨f1, f2, f3⟩ := bareB_ok hbare
  obtain ⟨ρ, σ, H2, _, k1, k2, k3⟩ := isSt_gen hS2 hN (hle2.blk hb) hc (y := ⟨hly, nxy, my⟩) (by have f1 : my.t.fuel = 1 := f1; show N + my.t.fuel ≤ _; rw [f1]; omega) ⟨Hy, hHy⟩ hst
    (fun ρ σ _ _ => ⟨fun x hx => no_mem f2 hx, fun x hx => no_mem f3 hx⟩)
  exact ⟨_, H2, k1, k2, c, k3, hc⟩
end X
end Go.Proofs.YtnkjnclpakfgnaaGreatDoor
