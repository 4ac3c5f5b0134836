/-
  A REGION THAT DRAWS, BY AN INVARIANT; and the one of lapidarylaw10's 'play' that takes two snapshots into two boxes.
-/
import Derived.Test.YtdohkjpapmkhjaaRefTen
import Derived.Deep.MidRow
namespace Go.Proofs.Ytdohkjpapmkhjaa
open Go.RowKit

section
variable {P : Program} {md : Region.Mode} {ops : Array Oper} {Q : Exit → Act → World → Prop} {S : World → Prop}

theorem count_set {l : Array Bool} {i : Nat} (h : l.getD i true = false) : (l.setIfInBounds i true).toList.count false + 1 = l.toList.count false := by
  have hi : i < l.size := by
    rcases Nat.lt_or_ge i l.size with h' | h'
    · exact h'
    · simp [h'] at h
  have he : l[i] = false := by simpa [hi] using h
  have hp : 0 < l.toList.count false := by
    rw [List.count_pos_iff, ← he]
    simp
  rw [Array.toList_setIfInBounds, List.count_set (by simpa using hi)]
  simp only [Array.getElem_toList, he]
  have e1 : (if (false == false) = true then 1 else 0) = 1 := rfl
  have e2 : (if (true == false) = true then 1 else 0) = 0 := rfl
  rw [e1, e2]
  omega

/-- A region, by what holds of each state: which operations have come up, the temporaries, the world. -/
theorem wpAnyH_inv (I : Array Bool → Act → World → Prop)
    (hfin : ∀ l a w, I l a w → Region.ready md ops l = [] → Q .normal a w)
    (hstep : ∀ l a w, I l a w → ∀ i ∈ Region.ready md ops l, wpOp P ops Q i (fun a' w' => S w' ∧ I (l.setIfInBounds i true) a' w') a w) :
    ∀ (fuel : Nat) (l : Array Bool) (a : Act) (w : World), l.toList.count false ≤ fuel → I l a w → wpAnyH P md ops Q S fuel l a w
  | 0, l, a, w, hc, h => by
    have hr : Region.ready md ops l = [] := by
      rw [List.eq_nil_iff_forall_not_mem]
      intro i hi
      have := count_set (mem_ready.1 hi).1
      omega
    exact ⟨hr, hfin l a w h hr⟩
  | fuel + 1, l, a, w, hc, h =>
    ⟨hfin l a w h, fun i hi => wpOp_mono (fun a' w' hk => ⟨hk.1, wpAnyH_inv I hfin hstep fuel _ a' w' (by have := count_set (mem_ready.1 hi).1; omega) hk.2⟩) (hstep l a w h i hi)⟩

theorem wpOp_call {i : Nat} {o : Oper} {f : FuncId} {xs : Array Operand} {ts : Array TypeId} {K : Act → World → Prop} {a : Act} {w : World} (ho : ops[i]? = some o) (hg : o.guard = none)
    (hop : o.op = .call { callee := .value (.func f), args := xs, argTypes := ts }) {fn : Func} {c : Code} (hf : P.funcs[f]? = some fn) (hname : (fn.name == "runtime.NumGoroutine") = false) (hb : fn.body = some c)
    (R : Ending → World → Prop) (hc : Calls P f (xs.map a.eval) w R) (hn : ∀ e w', R e w' → ∃ v, e = .returned v ∧ K (a.put o.dst v) w') : wpOp P ops Q i K a w := by
  refine wpOp_step ho fun K' hK => ?_
  rw [if_pos (by simp [Region.wanted, hg])]
  unfold Oper.wp
  simp [execOp, hop, resolve, invoke, go_sem]
  have h1 : fn.name ≠ "runtime.NumGoroutine" := by simpa using hname
  have hr : (callFunc f (xs.map a.eval)).run P w = .ok (.enter f (xs.map a.eval)) w := by simp [callFunc, hf, h1, hb]
  rw [hr]
  refine hc.mono fun e w' hr => ?_
  obtain ⟨v, rfl, hk⟩ := hn e w' hr
  exact hK _ _ hk

theorem wpOp_alloc {i : Nat} {o : Oper} {T : TypeId} {K : Act → World → Prop} {a : Act} {w : World} (ho : ops[i]? = some o) (hg : o.guard = none)
    (hop : o.op = .alloc T) (z : Value) (hz : ∀ w : World, (zeroValue T).run P w = .ok z w)
    (hk : K (a.put o.dst (.pointer (some ⟨w.heap.size, 0, none⟩))) (w.alloc (.cells z.cells T))) : wpOp P ops Q i K a w := by
  refine wpOp_step ho fun K' hK => ?_
  rw [if_pos (by simp [Region.wanted, hg])]
  unfold Oper.wp
  simp [execOp, hop, hz, go_sem]
  exact hK _ _ hk

theorem wpOp_store {i : Nat} {o : Oper} {T : TypeId} {x y : Operand} {K : Act → World → Prop} {a : Act} {w : World} (ho : ops[i]? = some o) (hg : o.guard = none)
    (hop : o.op = .store T x y) (b : Nat) (cells : Array Value) (hx : a.eval x = .pointer (some ⟨b, 0, none⟩)) (hy : a.eval y = .agg cells)
    (ht : w.there b 0 cells.size) (hi : (P.info? T).map (·.size) = some cells.size) (h1 : cells.all (·.oneCell') = true)
    (hk : K (a.put o.dst undef) (w.setCells b 0 cells.toList)) : wpOp P ops Q i K a w := by
  refine wpOp_step ho fun K' hK => ?_
  rw [if_pos (by simp [Region.wanted, hg])]
  exact wp_store_mid T x y hop b 0 cells hx hy ht hi h1 (hK _ _ hk)
end

/-- A temporary that may have been given. -/
def putO (a : Act) (d : Nat) : Option Value → Act
  | none => a
  | some v => a.put (some d) v
def putQ (a : Act) (x1 x2 p q : Option Value) : Act := putO (putO (putO (putO a 91 x1) 97 x2) 10 p) 11 q
theorem put_swap (a : Act) (d e : Nat) (v u : Value) (h : d ≠ e) : (a.put (some d) v).put (some e) u = (a.put (some e) u).put (some d) v := Act.put_comm a v u (fun d' hd => by obtain rfl := Option.some.inj hd; simpa using fun x => h x.symm)
theorem putQ_1 (a : Act) (x2 p q : Option Value) (v : Value) : (putQ a none x2 p q).put (some 91) v = putQ a (some v) x2 p q := by
  have c1 : ∀ X y v, (Act.put X (some 97) y).put (some 91) v = (X.put (some 91) v).put (some 97) y := fun X y v => put_swap X _ _ _ _ (by decide)
  have c2 : ∀ X y v, (Act.put X (some 10) y).put (some 91) v = (X.put (some 91) v).put (some 10) y := fun X y v => put_swap X _ _ _ _ (by decide)
  have c3 : ∀ X y v, (Act.put X (some 11) y).put (some 91) v = (X.put (some 91) v).put (some 11) y := fun X y v => put_swap X _ _ _ _ (by decide)
  cases x2 <;> cases p <;> cases q <;> simp only [putQ, putO, c1, c2, c3]
theorem putQ_2 (a : Act) (x1 p q : Option Value) (v : Value) : (putQ a x1 none p q).put (some 97) v = putQ a x1 (some v) p q := by
  have c2 : ∀ X y v, (Act.put X (some 10) y).put (some 97) v = (X.put (some 97) v).put (some 10) y := fun X y v => put_swap X _ _ _ _ (by decide)
  have c3 : ∀ X y v, (Act.put X (some 11) y).put (some 97) v = (X.put (some 97) v).put (some 11) y := fun X y v => put_swap X _ _ _ _ (by decide)
  cases p <;> cases q <;> simp only [putQ, putO, c2, c3]
theorem putQ_3 (a : Act) (x1 x2 q : Option Value) (v : Value) : (putQ a x1 x2 none q).put (some 10) v = putQ a x1 x2 (some v) q := by
  have c3 : ∀ X y v, (Act.put X (some 11) y).put (some 10) v = (X.put (some 10) v).put (some 11) y := fun X y v => put_swap X _ _ _ _ (by decide)
  cases q <;> simp only [putQ, putO, c3]
theorem putQ_4 (a : Act) (x1 x2 p : Option Value) (v : Value) : (putQ a x1 x2 p none).put (some 11) v = putQ a x1 x2 p (some v) := rfl

theorem eval_putO (a : Act) (d t : Nat) (x : Option Value) (h : t ≠ d) : (putO a d x).eval (.tmp t) = a.eval (.tmp t) := by
  cases x with
  | none => rfl
  | some v => exact Act.eval_put (dst := some d) (x := .tmp t) (fun d' hd e => h ((Operand.tmp.inj e).trans (Option.some.inj hd).symm))
theorem eval_putQ (a : Act) (x1 x2 p q : Option Value) (t : Nat) (h1 : t ≠ 91) (h2 : t ≠ 97) (h3 : t ≠ 10) (h4 : t ≠ 11) : (putQ a x1 x2 p q).eval (.tmp t) = a.eval (.tmp t) := by
  unfold putQ
  rw [eval_putO _ _ _ _ h4, eval_putO _ _ _ _ h3, eval_putO _ _ _ _ h2, eval_putO _ _ _ _ h1]
theorem size_putO (a : Act) (d : Nat) (x : Option Value) : (putO a d x).tmps.size = a.tmps.size := by
  cases x <;> simp [putO, Act.put]
theorem eval_putO_same (a : Act) (d : Nat) (v : Value) (h : d < a.tmps.size) : (putO a d (some v)).eval (.tmp d) = v := by
  simp [putO, Act.put, Act.eval, h]
section
variable {a : Act} {x1 x2 p q : Option Value} {v : Value}
theorem eval4_1 (h : 100 < a.tmps.size) : (putQ a (some v) x2 p q).eval (.tmp 91) = v := by
  unfold putQ
  rw [eval_putO _ _ _ _ (by decide), eval_putO _ _ _ _ (by decide), eval_putO _ _ _ _ (by decide), eval_putO_same _ _ _ (by omega)]
theorem eval4_2 (h : 100 < a.tmps.size) : (putQ a x1 (some v) p q).eval (.tmp 97) = v := by
  unfold putQ
  rw [eval_putO _ _ _ _ (by decide), eval_putO _ _ _ _ (by decide), eval_putO_same _ _ _ (by simp only [size_putO]; omega)]
theorem eval4_3 (h : 100 < a.tmps.size) : (putQ a x1 x2 (some v) q).eval (.tmp 10) = v := by
  unfold putQ
  rw [eval_putO _ _ _ _ (by decide), eval_putO_same _ _ _ (by simp only [size_putO]; omega)]
theorem eval4_4 (h : 100 < a.tmps.size) : (putQ a x1 x2 p (some v)).eval (.tmp 11) = v := by
  unfold putQ
  rw [eval_putO_same _ _ _ (by simp only [size_putO]; omega)]
end

def c66 (own xmin xmax : Int) (r : Value) : Array Value := #[.int .u64 own, .int .u64 xmin, .int .u64 xmax, r]
def c93 (own xmax : Int) (r : Value) : Array Value := #[.int .u64 own, .int .u64 xmax, r]
def cptr (b : Nat) : Value := .pointer (some ⟨b, 0, none⟩)

/-- Two results with lists of their own, two boxes, in whatever order they came. -/
structure Twin (a0 : Act) (W : World) (own xmin xmax : Int) (l : List Int) (x1 x2 : Option Value) (p q : Option Nat) (s1 s2 : Bool) (a : Act) (w : World) : Prop where
  act : a = putQ a0 (x1.map fun r => .agg (c66 own xmin xmax r)) (x2.map fun r => .agg (c93 own xmax r)) (p.map cptr) (q.map cptr)
  below : Below W.heap.size W w
  r1 : ∀ r, x1 = some r → Run w r l ∧ (∃ ra rc, r = .slice ra l.length rc) ∧ ∀ g, r.ownBlock = some g → W.heap.size ≤ g ∧ p ≠ some g ∧ q ≠ some g
  r2 : ∀ r, x2 = some r → Run w r l ∧ (∃ ra rc, r = .slice ra l.length rc) ∧ ∀ g, r.ownBlock = some g → W.heap.size ≤ g ∧ p ≠ some g ∧ q ≠ some g
  rr : ∀ r r', x1 = some r → x2 = some r' → ∀ g, r.ownBlock = some g → r'.ownBlock ≠ some g
  hp : ∀ b, p = some b → W.heap.size ≤ b ∧ q ≠ some b ∧ ∃ r, w.heap[b]? = some (.cells r 66 (0, 0)) ∧ r.size = 4 ∧ (s1 = true → ∃ z, x1 = some z ∧ r = c66 own xmin xmax z)
  hq : ∀ b, q = some b → W.heap.size ≤ b ∧ ∃ r, w.heap[b]? = some (.cells r 93 (0, 0)) ∧ r.size = 3 ∧ (s2 = true → ∃ z, x2 = some z ∧ r = c93 own xmax z)

section
variable {a0 : Act} {W : World} {own xmin xmax : Int} {l : List Int} {x1 x2 : Option Value} {p q : Option Nat} {s1 s2 : Bool} {a : Act} {w w' : World}

theorem slice_own {ra : Option Addr} {n c : Nat} {g : Nat} {w : World} {l : List Int} (h : Run w (.slice ra n c) l) (hg : (Value.slice ra n c).ownBlock = some g) : g < w.heap.size := h.lt g hg

/-- The first result comes. -/
theorem Twin.take1 (h : Twin a0 W own xmin xmax l none x2 p q s1 s2 a w) (hs : s1 = false) {ra : Option Addr} {rc : Nat} (u : Below w.heap.size w w')
    (hr : Run w' (.slice ra l.length rc) l) (hn : ∀ g, (Value.slice ra l.length rc).ownBlock = some g → w.heap.size ≤ g) :
    Twin a0 W own xmin xmax l (some (.slice ra l.length rc)) x2 p q s1 s2 (a.put (some 91) (.agg (c66 own xmin xmax (.slice ra l.length rc)))) w' := by
  have up : ∀ b, p = some b → b < w.heap.size := fun b hb => by obtain ⟨_, _, r, hr, _⟩ := h.hp b hb; exact lt_of_block hr
  have uq : ∀ b, q = some b → b < w.heap.size := fun b hb => by obtain ⟨_, r, hr, _⟩ := h.hq b hb; exact lt_of_block hr
  refine ⟨by rw [h.act]; exact putQ_1 _ _ _ _ _, h.below.trans (u.mono h.below.size), ?_, ?_, ?_, ?_, ?_⟩
  · rintro r e
    obtain rfl := Option.some.inj e
    exact ⟨hr, ⟨_, _, rfl⟩, fun g hg => ⟨Nat.le_trans h.below.size (hn g hg), fun e => by have := up g e; have := hn g hg; omega, fun e => by have := uq g e; have := hn g hg; omega⟩⟩
  · rintro r e
    obtain ⟨h1, h2, h3⟩ := h.r2 r e
    exact ⟨h1.same u, h2, h3⟩
  · rintro r r' e e' g hg hg'
    obtain rfl := Option.some.inj e
    have := (h.r2 r' e').1.lt g hg'
    have := hn g hg
    omega
  · intro b hb
    obtain ⟨h1, h2, r, h3, h4, h5⟩ := h.hp b hb
    exact ⟨h1, h2, r, (Upd.same (S := fun _ => False) u).heap h3 id, h4, fun e => by rw [hs] at e; cases e⟩
  · intro b hb
    obtain ⟨h1, r, h3, h4, h5⟩ := h.hq b hb
    exact ⟨h1, r, (Upd.same (S := fun _ => False) u).heap h3 id, h4, h5⟩
theorem Twin.take2 (h : Twin a0 W own xmin xmax l x1 none p q s1 s2 a w) (hs : s2 = false) {ra : Option Addr} {rc : Nat} (u : Below w.heap.size w w')
    (hr : Run w' (.slice ra l.length rc) l) (hn : ∀ g, (Value.slice ra l.length rc).ownBlock = some g → w.heap.size ≤ g) :
    Twin a0 W own xmin xmax l x1 (some (.slice ra l.length rc)) p q s1 s2 (a.put (some 97) (.agg (c93 own xmax (.slice ra l.length rc)))) w' := by
  have up : ∀ b, p = some b → b < w.heap.size := fun b hb => by obtain ⟨_, _, r, hr, _⟩ := h.hp b hb; exact lt_of_block hr
  have uq : ∀ b, q = some b → b < w.heap.size := fun b hb => by obtain ⟨_, r, hr, _⟩ := h.hq b hb; exact lt_of_block hr
  refine ⟨by rw [h.act]; exact putQ_2 _ _ _ _ _, h.below.trans (u.mono h.below.size), ?_, ?_, ?_, ?_, ?_⟩
  · rintro r e
    obtain ⟨h1, h2, h3⟩ := h.r1 r e
    exact ⟨h1.same u, h2, h3⟩
  · rintro r e
    obtain rfl := Option.some.inj e
    exact ⟨hr, ⟨_, _, rfl⟩, fun g hg => ⟨Nat.le_trans h.below.size (hn g hg), fun e => by have := up g e; have := hn g hg; omega, fun e => by have := uq g e; have := hn g hg; omega⟩⟩
  · rintro r r' e e' g hg hg'
    obtain rfl := Option.some.inj e'
    have := (h.r1 r e).1.lt g hg
    have := hn g hg'
    omega
  · intro b hb
    obtain ⟨h1, h2, r, h3, h4, h5⟩ := h.hp b hb
    exact ⟨h1, h2, r, (Upd.same (S := fun _ => False) u).heap h3 id, h4, h5⟩
  · intro b hb
    obtain ⟨h1, r, h3, h4, h5⟩ := h.hq b hb
    exact ⟨h1, r, (Upd.same (S := fun _ => False) u).heap h3 id, h4, fun e => by rw [hs] at e; cases e⟩
theorem Twin.box1 (h : Twin a0 W own xmin xmax l x1 x2 none q s1 s2 a w) (hs : s1 = false) (z : Array Value) (hz : z.size = 4) :
    Twin a0 W own xmin xmax l x1 x2 (some w.heap.size) q s1 s2 (a.put (some 10) (cptr w.heap.size)) (w.alloc (.cells z 66)) := by
  have u : Below w.heap.size w (w.alloc (.cells z 66)) := (Below.refl _ _).alloc (Nat.le_refl _) _
  have uq : ∀ b, q = some b → b < w.heap.size := fun b hb => by obtain ⟨_, r, hr, _⟩ := h.hq b hb; exact lt_of_block hr
  refine ⟨by rw [h.act]; exact putQ_3 _ _ _ _ _, h.below.trans (u.mono h.below.size), ?_, ?_, h.rr, ?_, ?_⟩
  · rintro r e
    obtain ⟨h1, h2, h3⟩ := h.r1 r e
    exact ⟨h1.same u, h2, fun g hg => ⟨(h3 g hg).1, fun e => by have := Option.some.inj e; have := h1.lt g hg; omega, (h3 g hg).2.2⟩⟩
  · rintro r e
    obtain ⟨h1, h2, h3⟩ := h.r2 r e
    exact ⟨h1.same u, h2, fun g hg => ⟨(h3 g hg).1, fun e => by have := Option.some.inj e; have := h1.lt g hg; omega, (h3 g hg).2.2⟩⟩
  · intro b hb
    obtain rfl := Option.some.inj hb
    exact ⟨h.below.size, fun e => by have := uq _ e; omega, z, heap_new1 w _, hz, fun e => by rw [hs] at e; cases e⟩
  · intro b hb
    obtain ⟨h1, r, h3, h4, h5⟩ := h.hq b hb
    exact ⟨h1, r, (Upd.same (S := fun _ => False) u).heap h3 id, h4, h5⟩
theorem Twin.box2 (h : Twin a0 W own xmin xmax l x1 x2 p none s1 s2 a w) (hs : s2 = false) (z : Array Value) (hz : z.size = 3) :
    Twin a0 W own xmin xmax l x1 x2 p (some w.heap.size) s1 s2 (a.put (some 11) (cptr w.heap.size)) (w.alloc (.cells z 93)) := by
  have u : Below w.heap.size w (w.alloc (.cells z 93)) := (Below.refl _ _).alloc (Nat.le_refl _) _
  have up : ∀ b, p = some b → b < w.heap.size := fun b hb => by obtain ⟨_, _, r, hr, _⟩ := h.hp b hb; exact lt_of_block hr
  refine ⟨by rw [h.act]; exact putQ_4 _ _ _ _ _, h.below.trans (u.mono h.below.size), ?_, ?_, h.rr, ?_, ?_⟩
  · rintro r e
    obtain ⟨h1, h2, h3⟩ := h.r1 r e
    exact ⟨h1.same u, h2, fun g hg => ⟨(h3 g hg).1, (h3 g hg).2.1, fun e => by have := Option.some.inj e; have := h1.lt g hg; omega⟩⟩
  · rintro r e
    obtain ⟨h1, h2, h3⟩ := h.r2 r e
    exact ⟨h1.same u, h2, fun g hg => ⟨(h3 g hg).1, (h3 g hg).2.1, fun e => by have := Option.some.inj e; have := h1.lt g hg; omega⟩⟩
  · intro b hb
    obtain ⟨h1, h2, r, h3, h4, h5⟩ := h.hp b hb
    exact ⟨h1, fun e => by have := Option.some.inj e; have := lt_of_block h3; omega, r, (Upd.same (S := fun _ => False) u).heap h3 id, h4, h5⟩
  · intro b hb
    obtain rfl := Option.some.inj hb
    exact ⟨h.below.size, z, heap_new1 w _, hz, fun e => by rw [hs] at e; cases e⟩

theorem setCells4 {b T : Nat} {r : Array Value} (h : w.heap[b]? = some (.cells r T (0, 0))) (hr : r.size = 4) (v1 v2 v3 v4 : Value) :
    (w.setCells b 0 [v1, v2, v3, v4]).heap[b]? = some (.cells #[v1, v2, v3, v4] T (0, 0)) := by
  obtain ⟨r⟩ := r
  match r, hr with
  | [y1, y2, y3, y4], _ =>
    have := block_setCell (i := 3) (block_setCell (i := 2) (block_setCell (i := 1) (block_setCell (i := 0) h v1) v2) v3) v4
    simpa [World.setCells] using this
theorem setCells3 {b T : Nat} {r : Array Value} (h : w.heap[b]? = some (.cells r T (0, 0))) (hr : r.size = 3) (v1 v2 v3 : Value) :
    (w.setCells b 0 [v1, v2, v3]).heap[b]? = some (.cells #[v1, v2, v3] T (0, 0)) := by
  obtain ⟨r⟩ := r
  match r, hr with
  | [y1, y2, y3], _ =>
    have := block_setCell (i := 2) (block_setCell (i := 1) (block_setCell (i := 0) h v1) v2) v3
    simpa [World.setCells] using this
theorem Upd.setCells (b : Nat) : ∀ (vs : List Value) (o : Nat) (w w1 : World), Upd (fun g => g = b) w w1 → Upd (fun g => g = b) w (w1.setCells b o vs)
  | [], _, _, _, u => u
  | v :: vs, o, _, _, u => Upd.setCells b vs (o + 1) _ _ (u.setCell v (fun _ => rfl))

theorem Twin.store1 {z : Value} {b : Nat} (h : Twin a0 W own xmin xmax l (some z) x2 (some b) q s1 s2 a w) :
    Twin a0 W own xmin xmax l (some z) x2 (some b) q true s2 a (w.setCells b 0 (c66 own xmin xmax z).toList) := by
  obtain ⟨k1, k2, r, k3, k4, k5⟩ := h.hp b rfl
  have u := Upd.setCells b (c66 own xmin xmax z).toList 0 w w (Upd.refl _ w)
  refine ⟨h.act, h.below.trans (u.below h.below.size (fun b' h' e => by omega)), ?_, ?_, h.rr, ?_, ?_⟩
  · rintro r e
    obtain ⟨h1, h2, h3⟩ := h.r1 r e
    exact ⟨h1.upd u (fun g hg e => (h3 g hg).2.1 (by rw [e])), h2, h3⟩
  · rintro r e
    obtain ⟨h1, h2, h3⟩ := h.r2 r e
    exact ⟨h1.upd u (fun g hg e => (h3 g hg).2.1 (by rw [e])), h2, h3⟩
  · intro b' hb
    obtain rfl := Option.some.inj hb
    exact ⟨k1, k2, _, setCells4 k3 k4 _ _ _ _, rfl, fun _ => ⟨z, rfl, rfl⟩⟩
  · intro b' hb
    obtain ⟨h1, r, h3, h4, h5⟩ := h.hq b' hb
    exact ⟨h1, r, u.heap h3 (fun e => k2 (by rw [hb, e])), h4, h5⟩
theorem Twin.store2 {z : Value} {b : Nat} (h : Twin a0 W own xmin xmax l x1 (some z) p (some b) s1 s2 a w) :
    Twin a0 W own xmin xmax l x1 (some z) p (some b) s1 true a (w.setCells b 0 (c93 own xmax z).toList) := by
  obtain ⟨k1, r, k3, k4, k5⟩ := h.hq b rfl
  have u := Upd.setCells b (c93 own xmax z).toList 0 w w (Upd.refl _ w)
  refine ⟨h.act, h.below.trans (u.below h.below.size (fun b' h' e => by omega)), ?_, ?_, h.rr, ?_, ?_⟩
  · rintro r e
    obtain ⟨h1, h2, h3⟩ := h.r1 r e
    exact ⟨h1.upd u (fun g hg e => (h3 g hg).2.2 (by rw [e])), h2, h3⟩
  · rintro r e
    obtain ⟨h1, h2, h3⟩ := h.r2 r e
    exact ⟨h1.upd u (fun g hg e => (h3 g hg).2.2 (by rw [e])), h2, h3⟩
  · intro b' hb
    obtain ⟨h1, h2, r, h3, h4, h5⟩ := h.hp b' hb
    exact ⟨h1, h2, r, u.heap h3 (fun e => h2 (by rw [e])), h4, h5⟩
  · intro b' hb
    obtain rfl := Option.some.inj hb
    exact ⟨k1, _, setCells3 k3 k4 _ _ _, rfl, fun _ => ⟨z, rfl, rfl⟩⟩

theorem take_agg {c : Nat → Nat} {k p : Nat} {f : Int} {L : List Nat} {w : World} (h : LogAt c k w p f L) (own : Int) :
    Calls Try.prog 36 #[.pointer (some ⟨p, 0, none⟩), .int .u64 own] w fun e w' => ∃ ra rc, e = .returned (.agg #[.int .u64 own, .int .u64 (Ytdohkjpapmkhjaa.take f L own).xmin, .int .u64 (f + L.length), .slice ra (Ytdohkjpapmkhjaa.take f L own).run.length rc]) ∧
      Run w' (.slice ra (Ytdohkjpapmkhjaa.take f L own).run.length rc) (Ytdohkjpapmkhjaa.take f L own).run ∧ (∀ g, (Value.slice ra (Ytdohkjpapmkhjaa.take f L own).run.length rc).ownBlock = some g → w.heap.size ≤ g) ∧ Below w.heap.size w w' := by
  refine (take_at h own).mono fun e w' ⟨rv, h1, h2, h3, h4⟩ => ?_
  obtain ⟨ra, rc, hr⟩ := ownsRow_slice h2.1
  subst hr
  exact ⟨ra, rc, h1, h2, h3, h4⟩
theorem rtake_agg {c : Nat → Nat} {k p : Nat} {f : Int} {L : List Nat} {w : World} (h : RefAt c k w p f L) (own : Int) :
    Calls Try.prog 60 #[.pointer (some ⟨p, 0, none⟩), .int .u64 own] w fun e w' => ∃ ra rc, e = .returned (.agg #[.int .u64 own, .int .u64 (f + L.length), .slice ra (Ytdohkjpapmkhjaa.take f L own).run.length rc]) ∧
      Run w' (.slice ra (Ytdohkjpapmkhjaa.take f L own).run.length rc) (Ytdohkjpapmkhjaa.take f L own).run ∧ (∀ g, (Value.slice ra (Ytdohkjpapmkhjaa.take f L own).run.length rc).ownBlock = some g → w.heap.size ≤ g) ∧ Below w.heap.size w w' := by
  refine (rtake_at h own).mono fun e w' ⟨rv, h1, h2, h3, h4⟩ => ?_
  obtain ⟨ra, rc, hr⟩ := ownsRow_slice h2.1
  subst hr
  exact ⟨ra, rc, h1, h2, h3, h4⟩

theorem Try.info66 : (Try.prog.info? 66).map (fun i => (i.zero, i.size, i.bytes)) = some (some (.agg #[.int .u64 0, .int .u64 0, .int .u64 0, .slice none 0 0]), 4, 48) := by kernel_rfl
theorem Try.info93 : (Try.prog.info? 93).map (fun i => (i.zero, i.size, i.bytes)) = some (some (.agg #[.int .u64 0, .int .u64 0, .slice none 0 0]), 3, 40) := by kernel_rfl
theorem run_zero {T : TypeId} {i : TypeInfo} {z : Value} (hi : Try.prog.info? T = some i) (hz : i.zero = some z) (w : World) : (zeroValue T).run Try.prog w = .ok z w := by
  have h1 : (typeInfo T).run Try.prog w = .ok i w := by simp [typeInfo, hi]
  simp [zeroValue, h1, hz]
theorem size_of_info {T : TypeId} {i : TypeInfo} {n : Nat} (hi : Try.prog.info? T = some i) (hz : i.size = n) : (Try.prog.info? T).map (·.size) = some n := by
  rw [hi, ← hz]; rfl
theorem there_of_block {w : World} {b T n : Nat} {r : Array Value} (h : w.heap[b]? = some (.cells r T (0, 0))) (hr : r.size = n) : w.there b 0 n := by
  intro j hj
  refine ⟨?_, free_of_block h⟩
  rw [cell_of_block (v := r[j]'(by omega)) h (by simp)]
  rfl
theorem oneCell_slice (a : Option Addr) (n c : Nat) : (Value.slice a n c).oneCell' = true := rfl

theorem rleast_take {w : World} {f : Int} {L : List Nat} {own : Int} {ra : Option Addr} {rc : Nat} (hr : Run w (.slice ra (Ytdohkjpapmkhjaa.take f L own).run.length rc) (Ytdohkjpapmkhjaa.take f L own).run) :
    Calls Try.prog 61 #[.agg #[.int .u64 own, .int .u64 (f + L.length), .slice ra (Ytdohkjpapmkhjaa.take f L own).run.length rc]] w fun e w' => e = .returned (.int .u64 (Ytdohkjpapmkhjaa.take f L own).xmin) ∧ Below w.heap.size w w' :=
  rleast_at (s := Ytdohkjpapmkhjaa.take f L own) hr

theorem same_run {w : World} {v1 v2 : Value} {l : List Int} (h1 : Run w v1 l) (h2 : Run w v2 l) : Calls Try.prog 29 #[v1, v2] w fun e w' => e = .returned (.bool true) ∧ ∃ n, w' = w.drewN n :=
  same_eq w 0 0 v1 v2 l h1.2 h1.1 h2.1

/-- What may come up: the first call; the second behind it; the boxes at any time; the stores behind all. -/
def twinReady (b1 b2 b3 b4 b5 b6 : Bool) : List Nat :=
  (if b1 then [] else [5]) ++ (if b1 && !b2 then [11] else []) ++ (if b3 then [] else [12]) ++ (if b4 then [] else [13]) ++ (if b1 && b2 && b3 && b4 && !b5 then [14] else []) ++ (if b1 && b2 && b3 && b4 && b5 && !b6 then [15] else [])

theorem twin_region {md : Region.Mode} {ops : Array Oper} {Q : Exit → Act → World → Prop} {S : World → Prop} (Ls : Bool → Bool → Bool → Bool → Bool → Bool → Array Bool)
    (hL1 : ∀ b2 b3 b4 b5 b6, (Ls false b2 b3 b4 b5 b6).setIfInBounds 5 true = Ls true b2 b3 b4 b5 b6) (hL2 : ∀ b1 b3 b4 b5 b6, (Ls b1 false b3 b4 b5 b6).setIfInBounds 11 true = Ls b1 true b3 b4 b5 b6)
    (hL3 : ∀ b1 b2 b4 b5 b6, (Ls b1 b2 false b4 b5 b6).setIfInBounds 12 true = Ls b1 b2 true b4 b5 b6) (hL4 : ∀ b1 b2 b3 b5 b6, (Ls b1 b2 b3 false b5 b6).setIfInBounds 13 true = Ls b1 b2 b3 true b5 b6)
    (hL5 : ∀ b1 b2 b3 b4 b6, (Ls b1 b2 b3 b4 false b6).setIfInBounds 14 true = Ls b1 b2 b3 b4 true b6) (hL6 : ∀ b1 b2 b3 b4 b5, (Ls b1 b2 b3 b4 b5 false).setIfInBounds 15 true = Ls b1 b2 b3 b4 b5 true)
    (hrd : ∀ b1 b2 b3 b4 b5 b6, Region.ready md ops (Ls b1 b2 b3 b4 b5 b6) = twinReady b1 b2 b3 b4 b5 b6)
    {o1 o2 o3 o4 o5 o6 : Oper} {t1 t2 : Array TypeId} (ho1 : ops[5]? = some o1) (ho2 : ops[11]? = some o2) (ho3 : ops[12]? = some o3) (ho4 : ops[13]? = some o4) (ho5 : ops[14]? = some o5) (ho6 : ops[15]? = some o6)
    (hg1 : o1.guard = none) (hg2 : o2.guard = none) (hg3 : o3.guard = none) (hg4 : o4.guard = none) (hg5 : o5.guard = none) (hg6 : o6.guard = none)
    (hd1 : o1.dst = some 91) (hd2 : o2.dst = some 97) (hd3 : o3.dst = some 10) (hd4 : o4.dst = some 11) (hd5 : o5.dst = none) (hd6 : o6.dst = none)
    (hc1 : o1.op = .call { callee := .value (.func 36), args := #[.tmp 89, .tmp 90], argTypes := t1 }) (hc2 : o2.op = .call { callee := .value (.func 60), args := #[.tmp 95, .tmp 96], argTypes := t2 })
    (hc3 : o3.op = .alloc 66) (hc4 : o4.op = .alloc 93) (hc5 : o5.op = .store 66 (.tmp 10) (.tmp 91)) (hc6 : o6.op = .store 93 (.tmp 11) (.tmp 97))
    {c : Nat → Nat} {k k2 pl px : Nat} {f : Int} {L : List Nat} (hl : LogAt c k W pl f L) (hx : RefAt c k2 W px f L)
    (e1 : a0.eval (.tmp 89) = .pointer (some ⟨pl, 0, none⟩)) (e2 : a0.eval (.tmp 90) = .int .u64 own) (e3 : a0.eval (.tmp 95) = .pointer (some ⟨px, 0, none⟩)) (e4 : a0.eval (.tmp 96) = .int .u64 own)
    (hsz : 100 < a0.tmps.size) (hS : ∀ w', Below W.heap.size W w' → S w')
    (hQ : ∀ r1 r2 p q w', Twin a0 W own (take f L own).xmin (f + L.length) (take f L own).run (some r1) (some r2) (some p) (some q) true true (putQ a0 (some (.agg (c66 own (take f L own).xmin (f + L.length) r1))) (some (.agg (c93 own (f + L.length) r2))) (some (cptr p)) (some (cptr q))) w' →
      Q .normal (putQ a0 (some (.agg (c66 own (take f L own).xmin (f + L.length) r1))) (some (.agg (c93 own (f + L.length) r2))) (some (cptr p)) (some (cptr q))) w') :
    ∀ fuel, (Ls false false false false false false).toList.count false ≤ fuel → wpAnyH Try.prog md ops Q S fuel (Ls false false false false false false) a0 W := by
  intro fuel hfu
  obtain ⟨i66, hi66, hz66, hs66, _⟩ := info_parts Try.info66
  obtain ⟨i93, hi93, hz93, hs93, _⟩ := info_parts Try.info93
  have hsz2 : ∀ x1 x2 p q, 100 < (putQ a0 x1 x2 p q).tmps.size := fun x1 x2 p q => by simp only [putQ, size_putO]; exact hsz
  refine wpAnyH_inv (fun l a w => ∃ x1 x2 p q s1 s2, l = Ls x1.isSome x2.isSome p.isSome q.isSome s1 s2 ∧
      Twin a0 W own (take f L own).xmin (f + L.length) (take f L own).run x1 x2 p q s1 s2 a w ∧ (s1 = true → x1.isSome = true ∧ x2.isSome = true ∧ p.isSome = true ∧ q.isSome = true) ∧ (s2 = true → s1 = true)) ?_ ?_ fuel _ _ _ hfu
    ⟨none, none, none, none, false, false, rfl, ⟨rfl, Below.refl _ _, (fun r e => by cases e), (fun r e => by cases e), (fun r r' e => by cases e), (fun r e => by cases e), (fun r e => by cases e)⟩, (fun e => by cases e), fun e => e⟩
  · rintro l a w ⟨x1, x2, p, q, s1, s2, rfl, h, g1, g2⟩ hr
    rw [hrd] at hr
    cases x1 <;> cases x2 <;> cases p <;> cases q <;> cases s1 <;> cases s2 <;> try (simp [twinReady] at hr; done)
    have ha := h.act
    subst ha
    exact hQ _ _ _ _ _ h
  · rintro l a w ⟨x1, x2, p, q, s1, s2, rfl, h, g1, g2⟩ i hi
    rw [hrd] at hi
    simp only [twinReady, List.mem_append] at hi
    rcases hi with ((((hi | hi) | hi) | hi) | hi) | hi
    · cases x1 with
      | some r => simp at hi
      | none =>
        obtain rfl : i = 5 := by simpa using hi
        have hs : s1 = false := by cases s1 with | false => rfl | true => simpa using g1 rfl
        subst hs
        have hs : s2 = false := by cases s2 with | false => rfl | true => simpa using g2 rfl
        subst hs
        have hev : (#[Operand.tmp 89, .tmp 90] : Array Operand).map a.eval = #[.pointer (some ⟨pl, 0, none⟩), .int .u64 own] := by
          have e1' : a.eval (.tmp 89) = .pointer (some ⟨pl, 0, none⟩) := by rw [h.act, eval_putQ _ _ _ _ _ _ (by decide) (by decide) (by decide) (by decide)]; exact e1
          have e2' : a.eval (.tmp 90) = .int .u64 own := by rw [h.act, eval_putQ _ _ _ _ _ _ (by decide) (by decide) (by decide) (by decide)]; exact e2
          simp [e1', e2']
        have hc := take_agg (hl.same h.below) own
        rw [← hev] at hc
        refine wpOp_call ho1 hg1 hc1 Try.func36 (by decide) rfl _ hc ?_
        rintro e w' ⟨ra, rc, rfl, h1, h2, h3⟩
        refine ⟨_, rfl, hS _ (h.below.trans (h3.mono h.below.size)), some (.slice ra (Ytdohkjpapmkhjaa.take f L own).run.length rc), x2, p, q, false, false, hL1 _ _ _ _ _, ?_, (fun e => by cases e), fun e => e⟩
        rw [hd1]
        exact h.take1 rfl h3 h1 h2
    · cases x2 with
      | some r => simp at hi
      | none =>
        obtain ⟨hx1, rfl⟩ : x1.isSome = true ∧ i = 11 := by simpa using hi
        have hs : s1 = false := by cases s1 with | false => rfl | true => simpa using g1 rfl
        subst hs
        have hs : s2 = false := by cases s2 with | false => rfl | true => simpa using g2 rfl
        subst hs
        have hev : (#[Operand.tmp 95, .tmp 96] : Array Operand).map a.eval = #[.pointer (some ⟨px, 0, none⟩), .int .u64 own] := by
          have e1' : a.eval (.tmp 95) = .pointer (some ⟨px, 0, none⟩) := by rw [h.act, eval_putQ _ _ _ _ _ _ (by decide) (by decide) (by decide) (by decide)]; exact e3
          have e2' : a.eval (.tmp 96) = .int .u64 own := by rw [h.act, eval_putQ _ _ _ _ _ _ (by decide) (by decide) (by decide) (by decide)]; exact e4
          simp [e1', e2']
        have hc := rtake_agg (hx.same h.below) own
        rw [← hev] at hc
        refine wpOp_call ho2 hg2 hc2 Try.func60 (by decide) rfl _ hc ?_
        rintro e w' ⟨ra, rc, rfl, h1, h2, h3⟩
        refine ⟨_, rfl, hS _ (h.below.trans (h3.mono h.below.size)), x1, some (.slice ra (Ytdohkjpapmkhjaa.take f L own).run.length rc), p, q, false, false, hL2 _ _ _ _ _, ?_, (fun e => by cases e), fun e => e⟩
        rw [hd2]
        exact h.take2 rfl h3 h1 h2
    · cases p with
      | some r => simp at hi
      | none =>
        obtain rfl : i = 12 := by simpa using hi
        have hs : s1 = false := by cases s1 with | false => rfl | true => simpa using g1 rfl
        subst hs
        have hs : s2 = false := by cases s2 with | false => rfl | true => simpa using g2 rfl
        subst hs
        refine wpOp_alloc ho3 hg3 hc3 (.agg #[.int .u64 0, .int .u64 0, .int .u64 0, .slice none 0 0]) (run_zero hi66 hz66) ?_
        rw [hd3]
        exact ⟨hS _ (h.below.alloc h.below.size _), x1, x2, some w.heap.size, q, false, false, hL3 _ _ _ _ _, h.box1 rfl _ rfl, (fun e => by cases e), fun e => e⟩
    · cases q with
      | some r => simp at hi
      | none =>
        obtain rfl : i = 13 := by simpa using hi
        have hs : s1 = false := by cases s1 with | false => rfl | true => simpa using g1 rfl
        subst hs
        have hs : s2 = false := by cases s2 with | false => rfl | true => simpa using g2 rfl
        subst hs
        refine wpOp_alloc ho4 hg4 hc4 (.agg #[.int .u64 0, .int .u64 0, .slice none 0 0]) (run_zero hi93 hz93) ?_
        rw [hd4]
        exact ⟨hS _ (h.below.alloc h.below.size _), x1, x2, p, some w.heap.size, false, false, hL4 _ _ _ _ _, h.box2 rfl _ rfl, (fun e => by cases e), fun e => e⟩
    · cases x1 <;> cases x2 <;> cases p <;> cases q <;> try (simp at hi; done)
      rename_i r1 r2 p q
      obtain ⟨hs, rfl⟩ : s1 = false ∧ i = 14 := by simpa using hi
      subst hs
      obtain ⟨k1, k2, r, k3, k4, k5⟩ := h.hp _ rfl
      have hst := h.store1
      refine wpOp_store ho5 hg5 hc5 p (c66 own (take f L own).xmin (f + L.length) r1) (by rw [h.act]; exact eval4_3 hsz) (by rw [h.act]; exact eval4_1 hsz) (there_of_block k3 k4) (size_of_info hi66 hs66) ?_ ?_
      · obtain ⟨_, ⟨ra, rc, rfl⟩, _⟩ := h.r1 _ rfl
        simp [c66, Value.oneCell']
      · rw [hd5]
        exact ⟨hS _ hst.below, _, _, _, _, _, _, hL5 _ _ _ _ _, hst, fun _ => ⟨rfl, rfl, rfl, rfl⟩, fun _ => rfl⟩
    · cases x1 <;> cases x2 <;> cases p <;> cases q <;> cases s1 <;> try (simp at hi; done)
      rename_i r1 r2 p q
      obtain ⟨hs, rfl⟩ : s2 = false ∧ i = 15 := by simpa using hi
      subst hs
      obtain ⟨k1, r, k3, k4, k5⟩ := h.hq _ rfl
      have hst := h.store2
      refine wpOp_store ho6 hg6 hc6 q (c93 own (f + L.length) r2) (by rw [h.act]; exact eval4_4 hsz) (by rw [h.act]; exact eval4_2 hsz) (there_of_block k3 k4) (size_of_info hi93 hs93) ?_ ?_
      · obtain ⟨_, ⟨ra, rc, rfl⟩, _⟩ := h.r2 _ rfl
        simp [c93, Value.oneCell']
      · rw [hd6]
        exact ⟨hS _ hst.below, _, _, _, _, _, _, hL6 _ _ _ _ _, hst, fun _ => ⟨rfl, rfl, rfl, rfl⟩, fun _ => rfl⟩

/-- All of it, when all has come. -/
theorem Twin.facts {r1 r2 : Value} {p q : Nat} (h : Twin a0 W own xmin xmax l (some r1) (some r2) (some p) (some q) true true a w) :
    (Run w r1 l ∧ (∃ ra rc, r1 = .slice ra l.length rc) ∧ ∀ g, r1.ownBlock = some g → W.heap.size ≤ g) ∧ (Run w r2 l ∧ (∃ ra rc, r2 = .slice ra l.length rc) ∧ ∀ g, r2.ownBlock = some g → W.heap.size ≤ g ∧ r1.ownBlock ≠ some g) ∧
      p ≠ q ∧ w.heap[p]? = some (.cells (c66 own xmin xmax r1) 66 (0, 0)) ∧ w.heap[q]? = some (.cells (c93 own xmax r2) 93 (0, 0)) ∧ Below W.heap.size W w := by
  obtain ⟨a1, a2, a3⟩ := h.r1 _ rfl
  obtain ⟨b1, b2, b3⟩ := h.r2 _ rfl
  obtain ⟨k1, k2, r, k3, k4, k5⟩ := h.hp _ rfl
  obtain ⟨z, hz, rfl⟩ := k5 rfl
  obtain rfl := Option.some.inj hz
  obtain ⟨m1, r', m3, m4, m5⟩ := h.hq _ rfl
  obtain ⟨z, hz, rfl⟩ := m5 rfl
  obtain rfl := Option.some.inj hz
  exact ⟨⟨a1, a2, fun g hg => (a3 g hg).1⟩, ⟨b1, b2, fun g hg => ⟨(b3 g hg).1, fun e => h.rr _ _ rfl rfl g e hg⟩⟩, fun e => k2 (by rw [e]), k3, m3, h.below⟩
theorem cells7 {p q : Nat} {r1 r2 : Value} (hp : w.heap[p]? = some (.cells (c66 own xmin xmax r1) 66 (0, 0))) (hq : w.heap[q]? = some (.cells (c93 own xmax r2) 93 (0, 0))) :
    w.cell? ⟨p, 0, none⟩ = some (.int .u64 own) ∧ w.cell? ⟨p, 1, none⟩ = some (.int .u64 xmin) ∧ w.cell? ⟨p, 2, none⟩ = some (.int .u64 xmax) ∧ w.cell? ⟨p, 3, none⟩ = some r1 ∧
      w.cell? ⟨q, 0, none⟩ = some (.int .u64 own) ∧ w.cell? ⟨q, 1, none⟩ = some (.int .u64 xmax) ∧ w.cell? ⟨q, 2, none⟩ = some r2 :=
  ⟨cell_of_block hp rfl, cell_of_block hp rfl, cell_of_block hp rfl, cell_of_block hp rfl, cell_of_block hq rfl, cell_of_block hq rfl, cell_of_block hq rfl⟩
theorem below7 {B p q : Nat} {v0 v1 v2 v3 y0 y1 y2 : Value} (u : Below B w w') (hp : p < B) (hq : q < B)
    (h : w.cell? ⟨p, 0, none⟩ = some v0 ∧ w.cell? ⟨p, 1, none⟩ = some v1 ∧ w.cell? ⟨p, 2, none⟩ = some v2 ∧ w.cell? ⟨p, 3, none⟩ = some v3 ∧
      w.cell? ⟨q, 0, none⟩ = some y0 ∧ w.cell? ⟨q, 1, none⟩ = some y1 ∧ w.cell? ⟨q, 2, none⟩ = some y2) :
    w'.cell? ⟨p, 0, none⟩ = some v0 ∧ w'.cell? ⟨p, 1, none⟩ = some v1 ∧ w'.cell? ⟨p, 2, none⟩ = some v2 ∧ w'.cell? ⟨p, 3, none⟩ = some v3 ∧
      w'.cell? ⟨q, 0, none⟩ = some y0 ∧ w'.cell? ⟨q, 1, none⟩ = some y1 ∧ w'.cell? ⟨q, 2, none⟩ = some y2 := by
  have f : ∀ b o v, b < B → w.cell? ⟨b, o, none⟩ = some v → w'.cell? ⟨b, o, none⟩ = some v := fun b o v hb e => (u.cell (p := ⟨b, o, none⟩) hb).trans e
  obtain ⟨h0, h1, h2, h3, h4, h5, h6⟩ := h
  exact ⟨f _ _ _ hp h0, f _ _ _ hp h1, f _ _ _ hp h2, f _ _ _ hp h3, f _ _ _ hq h4, f _ _ _ hq h5, f _ _ _ hq h6⟩
end
end Go.Proofs.Ytdohkjpapmkhjaa
