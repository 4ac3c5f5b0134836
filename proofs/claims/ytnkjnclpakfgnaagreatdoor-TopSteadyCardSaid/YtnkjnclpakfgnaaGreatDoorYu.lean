/- SELECT SUM(b), COUNT( * ) at rest. No conditions. -/
import Derived.Test.YtnkjnclpakfgnaaGreatDoorMc7
import Derived.Test.YtnkjnclpakfgnaaGreatDoorZe
namespace Go.Proofs.YtnkjnclpakfgnaaGreatDoor
namespace X
open Go.RowKit
set_option maxRecDepth 100000

/-- So many times symbol 2, and so much. -/
noncomputable def linS (sm : List (Nat × V × V)) (ih : V → Option (Nat × Nat)) (v : V) : Option (Nat × Nat) := match v with
  | .int _ (.ofNat m) => some (0, m)
  | .sym _ q => bq (Nat.beq q 2) (ob (lkp q sm) fun xy => ob (ih xy.1) fun a => ob (ih xy.2) fun b => fN (a.1 + b.1) fun p => fN (a.2 + b.2) fun r => some (p, r)) (some (1, 0))
  | _ => none
noncomputable def linV (sm : List (Nat × V × V)) (n : Nat) : V → Option (Nat × Nat) := n.rec (fun _ => none) (fun _ ih v => linS sm ih v)
theorem linV_ok {E : Env} {sm : List (Nat × V × V)} {x : Int} (h2 : E.sy 2 = some x) (hs : ∀ e ∈ sm, ∃ a b, VR E e.2.1 (.int .i64 a) ∧ VR E e.2.2 (.int .i64 b) ∧ E.sy e.1 = some (a + b)) :
    ∀ {n : Nat} {v : V} {p r : Nat} {y : Int}, linV sm n v = some (p, r) → VR E v (.int .i64 y) → y = p * x + r
  | 0, _, _, _, _, h, _ => by cases h
  | n + 1, v, p, r, y, h, hv => by
    replace h : linS sm (linV sm n) v = some (p, r) := h
    unfold linS at h
    split at h <;> first | (cases h; done) | skip
    · cases h
      cases hv
      simp
    · rename_i k q
      unfold bq at h
      cases hq : Nat.beq q 2 with
      | true =>
        rw [hq] at h
        cases h
        rw [Nat.eq_of_beq_eq_true hq] at hv
        cases hv with
        | sym e => rw [h2] at e; cases e; simp
      | false =>
        rw [hq] at h
        obtain ⟨xy, hxy, h⟩ := ob_eq h
        obtain ⟨a, ha, h⟩ := ob_eq h
        obtain ⟨b, hb, h⟩ := ob_eq h
        simp only [fN_eq] at h
        cases h
        obtain ⟨u, w, v1, v2, v3⟩ := hs _ (lkp_mem hxy)
        cases hv with
        | sym e =>
          rw [v3] at e; cases e
          obtain ⟨a1, a2⟩ := a
          obtain ⟨b1, b2⟩ := b
          rw [linV_ok h2 hs ha v1, linV_ok h2 hs hb v2]
          simp only [Int.natCast_add, Int.add_mul]
          omega
noncomputable def rowsV (v : V) : Option Nat := match v with
  | .tup [.agg [.int k (.ofNat c), x, .sg id i z n, y], .int k' (.ofNat e)] => ck (one x) (ck (one y) <| ck (Nat.beq (kno k) 3) (ck (Nat.beq (kno k') 3) (ck (Nat.beq c 0) (ck (Nat.beq e 0) (ck (Nat.beq i 0) (ck (Nat.beq z 1) (ck (Nat.beq n 1) (some id))))))))
  | _ => none
noncomputable def growV (o : O) : Option (List V) := match o with
  | .grow _ _ l => some l
  | _ => none
noncomputable def firstV (l : List V) : Option Nat := match l with
  | .sg id i _ n :: _ => ck (Nat.beq i 0) (ck (Nat.beq n 2) (some id))
  | _ => none
noncomputable def isN (k : Nat) (v : V) : Bool := match v with
  | .int i (.ofNat n) => an (Nat.beq (kno i) 3) (Nat.beq n k)
  | _ => false
noncomputable def i64V (v : V) : Bool := match v with
  | .int i _ => Nat.beq (kno i) 3
  | .sym i _ => Nat.beq (kno i) 3
  | _ => false
noncomputable def selB (a : Option St) (k c : Nat) : Bool := (ob a fun x => ob (atS x) fun s => ob (doE eS s) fun r => ob (rowsV r.1) fun id => ob (hget r.2.H id) fun o => ob (growV o) fun l => ob (firstV l) fun id2 => ob (hget r.2.H id2) fun o2 => ob (growV o2) fun l2 =>
  ob (lget 1 l2) fun u => ob (lget 5 l2) fun t => ck (isN k t) (ck (i64V u) (ob (linV (smS r.2) 40 u) fun z => ck (Nat.beq z.1 k) (ck (Nat.beq z.2 c) (ck (str3 r.2.H) (some 0)))))).rec false (fun _ => true)
theorem rowsV_ok {E : Env} {v : V} {W : Value} {id : Nat} (h : rowsV v = some id) (hv : VR E v W) : ∃ b c x y, O3 x y y ∧ E.blk id = some (b, c) ∧ W = .tuple #[.agg #[.int .i64 0, x, .slice (some ⟨b, c.1, none⟩) 1 c.2, y], .int .i64 0] := by
  unfold rowsV at h
  split at h <;> first | (cases h; done) | skip
  obtain ⟨g1, h⟩ := ck_eq h
  obtain ⟨g2, h⟩ := ck_eq h
  obtain ⟨h1, h⟩ := ck_eq h
  obtain ⟨h2, h⟩ := ck_eq h
  obtain ⟨h3, h⟩ := ck_eq h
  obtain ⟨h4, h⟩ := ck_eq h
  obtain ⟨h5, h⟩ := ck_eq h
  obtain ⟨h6, h⟩ := ck_eq h
  obtain ⟨h7, h⟩ := ck_eq h
  cases h
  rw [kno_inj (k' := .i64) h1, kno_inj (k' := .i64) h2, Nat.eq_of_beq_eq_true h3, Nat.eq_of_beq_eq_true h4, Nat.eq_of_beq_eq_true h5, Nat.eq_of_beq_eq_true h6, Nat.eq_of_beq_eq_true h7] at hv
  obtain ⟨L, rfl, h0⟩ := hv.tup_inv
  clear hv
  obtain ⟨x1, m, e1, p1, h⟩ := h0.head
  obtain ⟨x2, m, rfl, p2, h⟩ := h.head
  obtain ⟨L2, rfl, g⟩ := p1.agg_inv
  obtain ⟨y1, q, e2, p1, g⟩ := g.head
  obtain ⟨y2, q, rfl, v2, g⟩ := g.head
  obtain ⟨y3, q, rfl, p3, g⟩ := g.head
  obtain ⟨y4, q, rfl, v4, g⟩ := g.head
  cases p1; cases p2
  cases m with
  | cons _ _ => exact absurd h.1 (by simp)
  | nil =>
    cases q with
    | cons _ _ => exact absurd g.1 (by simp)
    | nil =>
      cases p3 with
      | sg hb _ => exact ⟨_, _, y2, y4, ⟨one_ok v2 g1, one_ok v4 g2, one_ok v4 g2⟩, hb, by rw [← Array.toArray_toList (xs := L), e1, ← Array.toArray_toList (xs := L2), e2]; simp⟩
theorem ob_rec' {α : Type} {o : Option α} (h : (o.rec false (fun _ => true) : Bool) = true) : ∃ z, o = some z := by
  cases o with
  | none => cases h
  | some z => exact ⟨z, rfl⟩
theorem isN_ok {E : Env} {k : Nat} {v : V} {W : Value} (h : isN k v = true) (hv : VR E v W) : W = .int .i64 k := by
  unfold isN at h
  split at h <;> first | (cases h; done) | skip
  obtain ⟨h1, h2⟩ := an_ok h
  rw [kno_inj (k' := .i64) h1, Nat.eq_of_beq_eq_true h2] at hv
  cases hv; rfl
theorem i64V_ok {E : Env} {v : V} {W : Value} (h : i64V v = true) (hv : VR E v W) : ∃ n, W = .int .i64 n := by
  unfold i64V at h
  split at h <;> first | (cases h; done) | skip
  · rw [kno_inj (k' := .i64) h] at hv
    cases hv; exact ⟨_, rfl⟩
  · rw [kno_inj (k' := .i64) h] at hv
    cases hv; exact ⟨_, rfl⟩
/-- A row of cells. -/
theorem growAt {I : Inv} {K : Keep} {E : Env} {H : T O} {nx : Nat} {m : I.M} {w : World} (hS : Sim I K E H nx m w) {id b : Nat} {c : Nat × Nat} {o : O} {l : List V} (hg : hget H id = some o) (hr : growV o = some l) (hb : E.blk id = some (b, c)) :
    c.1 = 0 ∧ ∀ {i : Nat} {v : V}, l[i]? = some v → ∃ W, w.cell? ⟨b, i, none⟩ = some W ∧ VR E v W := by
  cases o <;> first | (cases hr; done) | skip
  cases hr
  obtain ⟨ob, q1, q2⟩ := hS.at ⟨hg, by simp⟩ hb
  cases q2 with
  | grow h0 hs hl e _ =>
    refine ⟨h0, fun {i v} hi => ?_⟩
    rw [h0, List.drop_zero] at e
    obtain ⟨W, hW, hv⟩ := e.get hi
    rw [List.getElem?_take] at hW
    split at hW
    · exact ⟨W, cell_of_block q1 (by simpa using hW), hv⟩
    · cases hW

theorem selB_ok {a : Option St} {k c : Nat} (h : selB a k c = true) :
    ∃ x, a = some x ∧ ∀ {N : Int} {K : Keep} {db : Nat} {v : Int} {w : World} {S : ByteArray}, StAt N K x db v w → bytesN S = eS.q →
      Calls Tryz.prog 17 #[.pointer (some ⟨db, 0, none⟩), .int .i64 0, .string S] w fun e w' => ∃ b1 cap1 b2 cap2 x1 x2, O3 x1 x2 x2 ∧ e = .returned (.tuple #[.agg #[.int .i64 0, x1, .slice (some ⟨b1, 0, none⟩) 1 cap1, x2], .int .i64 0]) ∧
        w'.cell? ⟨b1, 0, none⟩ = some (.slice (some ⟨b2, 0, none⟩) 2 cap2) ∧ w'.cell? ⟨b2, 1, none⟩ = some (.int .i64 (k * v + c)) ∧ w'.cell? ⟨b2, 5, none⟩ = some (.int .i64 k) ∧ ∃ (E1 : Env) (H1 : T O) (n1 : Nat) (m1 : MM), Sim (IT N) K E1 H1 n1 m1 w' ∧ str3 H1 = true := by
  obtain ⟨z0, h⟩ := ob_rec' h
  obtain ⟨x, hxa, h⟩ := ob_eq h
  obtain ⟨s, hs, h⟩ := ob_eq h
  obtain ⟨r, hr, h⟩ := ob_eq h
  obtain ⟨id, hid, h⟩ := ob_eq h
  obtain ⟨o, ho, h⟩ := ob_eq h
  obtain ⟨l, hl, h⟩ := ob_eq h
  obtain ⟨id2, hid2, h⟩ := ob_eq h
  obtain ⟨o2, ho2, h⟩ := ob_eq h
  obtain ⟨l2, hl2, h⟩ := ob_eq h
  obtain ⟨u, hu, h⟩ := ob_eq h
  obtain ⟨t, ht, h⟩ := ob_eq h
  obtain ⟨hisN, h⟩ := ck_eq h
  obtain ⟨hi64, h⟩ := ck_eq h
  obtain ⟨z, hz, h⟩ := ob_eq h
  obtain ⟨hzk, h⟩ := ck_eq h
  obtain ⟨hzc, h⟩ := ck_eq h
  obtain ⟨hs3, _⟩ := ck_eq h
  refine ⟨x, hxa, ?_⟩
  intro N K db v w S hx hS
  obtain ⟨E, H, hH, hSim, ⟨c0, hb, hc⟩, hv⟩ := hx
  obtain ⟨hl0, nx, m⟩ := x
  obtain ⟨H', hH', hs⟩ := ob_eq hs
  have hH : mkH hl0 = some H := hH
  rw [hH] at hH'; cases hH'
  cases hs
  obtain ⟨v1, s1⟩ := r
  refine (cnE_ok eS_ok 100 hr hSim (A := #[.pointer (some ⟨db, 0, none⟩), .int .i64 0, .string S]) (.cons (deskP hb hc) (.cons (.int _ _) (.cons (.str hS) .nil)))).mono ?_
  rintro ee w' ⟨W, E1, rfl, hle, hvr, hS1⟩
  obtain ⟨b1, c1, x1, x2, hone, e1, rfl⟩ := rowsV_ok hid hvr
  obtain ⟨z1, g1⟩ := growAt hS1 ho hl e1
  rw [lget_eq] at hu ht
  have hfirst : ∃ i sz rest, l = .sg id2 i sz 2 :: rest ∧ i = 0 := by
    unfold firstV at hid2
    split at hid2 <;> first | (cases hid2; done) | skip
    obtain ⟨k1, k2⟩ := ck_eq hid2
    obtain ⟨k3, k4⟩ := ck_eq k2
    cases k4
    exact ⟨_, _, _, by rw [Nat.eq_of_beq_eq_true k3], Nat.eq_of_beq_eq_true k1⟩
  obtain ⟨i, sz, rest, rfl, rfl⟩ := hfirst
  obtain ⟨W1, w1, v2⟩ := g1 (i := 0) rfl
  cases v2 with
  | @sg _ _ _ _ b2 c2 e2 _ =>
    obtain ⟨z2, g2⟩ := growAt hS1 ho2 hl2 e2
    obtain ⟨W2, w2, v2⟩ := g2 hu
    obtain ⟨W3, w3, v3⟩ := g2 ht
    obtain rfl := isN_ok hisN v3
    obtain ⟨y, rfl⟩ := i64V_ok hi64 v2
    obtain ⟨F, ⟨cc, f, L, g⟩, _⟩ := hS1.inv
    have := linV_ok (hle.sy hv) (fun e he => g.sm e he) hz v2
    rw [Nat.eq_of_beq_eq_true hzk, Nat.eq_of_beq_eq_true hzc] at this
    subst this
    refine ⟨b1, c1.2, b2, c2.2, x1, x2, hone, by rw [z1], ?_, w2, w3, _, _, _, _, hS1, hs3⟩
    rw [w1]
    simp [z2]
end X
end Go.Proofs.YtnkjnclpakfgnaaGreatDoor
