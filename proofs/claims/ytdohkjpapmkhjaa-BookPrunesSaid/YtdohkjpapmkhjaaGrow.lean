/-
  THE REGION OF lapidarylaw10's 'play' THAT KEEPS TWO SNAPSHOTS: two slices of one, two appends, in whatever order.
-/
import Derived.Test.YtdohkjpapmkhjaaBoxes
namespace Go.Proofs.Ytdohkjpapmkhjaa
open Go.RowKit

/-- Temporaries that may have been given. -/
def puts (a : Act) (l : List (Nat × Option Value)) : Act := l.foldl (fun a x => putO a x.1 x.2) a
theorem putO_swap (a : Act) (d e : Nat) (x : Option Value) (u : Value) (h : d ≠ e) : (putO a d x).put (some e) u = putO (a.put (some e) u) d x := by
  cases x with
  | none => rfl
  | some v => exact put_swap a d e v u h
theorem puts_put_not (d : Nat) (v : Value) : ∀ (l : List (Nat × Option Value)) (a : Act), d ∉ l.map Prod.fst → (puts a l).put (some d) v = puts (a.put (some d) v) l
  | [], _, _ => rfl
  | x :: l, a, h => by
    simp only [List.map_cons, List.mem_cons, not_or] at h
    show (puts (putO a x.1 x.2) l).put (some d) v = puts (putO (a.put (some d) v) x.1 x.2) l
    rw [puts_put_not d v l _ h.2, putO_swap _ _ _ _ _ (Ne.symm h.1)]
theorem puts_append (a : Act) (l1 l2 : List (Nat × Option Value)) : puts a (l1 ++ l2) = puts (puts a l1) l2 := List.foldl_append ..
/-- The one that was not there is given. -/
theorem puts_put (a : Act) (l1 l2 : List (Nat × Option Value)) (d : Nat) (v : Value) (h : d ∉ l2.map Prod.fst) : (puts a (l1 ++ (d, none) :: l2)).put (some d) v = puts a (l1 ++ (d, some v) :: l2) := by
  rw [puts_append, puts_append]
  show (puts (putO (puts a l1) d none) l2).put (some d) v = puts (putO (puts a l1) d (some v)) l2
  rw [puts_put_not d v l2 _ h]
  rfl
theorem eval_puts_not (t : Nat) : ∀ (l : List (Nat × Option Value)) (a : Act), t ∉ l.map Prod.fst → (puts a l).eval (.tmp t) = a.eval (.tmp t)
  | [], _, _ => rfl
  | x :: l, a, h => by
    simp only [List.map_cons, List.mem_cons, not_or] at h
    show (puts (putO a x.1 x.2) l).eval (.tmp t) = _
    rw [eval_puts_not t l _ h.2, eval_putO _ _ _ _ h.1]
theorem size_puts : ∀ (l : List (Nat × Option Value)) (a : Act), (puts a l).tmps.size = a.tmps.size
  | [], _ => rfl
  | _ :: l, _ => (size_puts l _).trans (size_putO _ _ _)
theorem eval_puts (a : Act) (l1 l2 : List (Nat × Option Value)) (d : Nat) (v : Value) (h : d ∉ l2.map Prod.fst) (hs : d < a.tmps.size) : (puts a (l1 ++ (d, some v) :: l2)).eval (.tmp d) = v := by
  rw [puts_append]
  show (puts (putO (puts a l1) d (some v)) l2).eval (.tmp d) = v
  rw [eval_puts_not d l2 _ h, eval_putO_same _ _ _ (by rw [size_puts]; exact hs)]

/-- A region, by what holds of each state, up to where another law goes on. -/
theorem wpAnyH_till {P : Program} {md : Region.Mode} {ops : Array Oper} {Q : Exit → Act → World → Prop} {S : World → Prop} (I : Array Bool → Act → World → Prop)
    (hI : ∀ l a w, I l a w → (∀ fuel, fuel = l.toList.count false → wpAnyH P md ops Q S fuel l a w) ∨
      (Region.ready md ops l ≠ [] ∧ ∀ i ∈ Region.ready md ops l, wpOp P ops Q i (fun a' w' => S w' ∧ I (l.setIfInBounds i true) a' w') a w)) :
    ∀ (fuel : Nat) (l : Array Bool) (a : Act) (w : World), fuel = l.toList.count false → I l a w → wpAnyH P md ops Q S fuel l a w
  | 0, l, a, w, hc, h => by
    rcases hI l a w h with h1 | ⟨h1, _⟩
    · exact h1 0 hc
    · obtain ⟨i, hi⟩ := List.exists_mem_of_ne_nil _ h1
      have := count_set (mem_ready.1 hi).1
      omega
  | fuel + 1, l, a, w, hc, h => by
    rcases hI l a w h with h1 | ⟨h1, h2⟩
    · exact h1 _ hc
    · exact ⟨fun e => absurd e h1, fun i hi => wpOp_mono (fun a' w' hk => ⟨hk.1, wpAnyH_till I hI fuel _ a' w' (by have := count_set (mem_ready.1 hi).1; omega) hk.2⟩) (h2 i hi)⟩

section
variable {P : Program} {md : Region.Mode} {ops : Array Oper} {Q : Exit → Act → World → Prop} {S : World → Prop}
theorem wpOp_build {i : Nat} {o : Oper} {T : TypeId} {t : Nat} {K : Act → World → Prop} {a : Act} {w : World} (ho : ops[i]? = some o) (hg : o.guard = none)
    (hop : o.op = .buildSlice T 1 #[(0, .tmp t)]) (v r : Value) (w' : World) (hv : a.eval (.tmp t) = v) (hr : (Instr.buildSlice T 1 #[(0, v)]).run P w = .ok r w')
    (hk : K (a.put o.dst r) w') : wpOp P ops Q i K a w := by
  refine wpOp_step ho fun K' hK => ?_
  rw [if_pos (by simp [Region.wanted, hg])]
  unfold Oper.wp execOp
  simp only [hop, List.map_toArray, List.map_cons, List.map_nil, hv, Sem.run_bind, Sem.run_pure, Result.andThen_ok, hr]
  exact hK _ _ hk
theorem wpOp_append {i : Nat} {o : Oper} {K : Act → World → Prop} {a : Act} {w : World} (ho : ops[i]? = some o) (hg : o.guard = none) (s x : Operand) (t : TypeId)
    (hop : o.op = .call { callee := .builtin .append, args := #[s, x], argTypes := #[t, t] })
    (base : Nat) (e : TypeId) (i' : TypeInfo) (z : Value) (size bytes : Nat) (ht : P.underlying t = some (.slice e)) (hi : P.info? e = some i') (hz : i'.zero = some z)
    (hsize : i'.size = size) (hby : i'.bytes = bytes) (hzs : z.cells.size = size) (hsz : 0 < size)
    (v : Value) (n : Nat) (xs : List Value) (hs : a.eval s = v) (hown : w.ownsRow base e size v n xs)
    (ad : Addr) (m c : Nat) (news : List Value) (hx : a.eval x = .slice (some ad) m c) (hl : news.length = m * size) (hnews : ∀ j u, news[j]? = some u → w.cell? (ad.add j) = some u) (h1 : ∀ u ∈ news, u.oneCell' = true)
    (h63 : n + m ≤ maxLen) (hbytes : (n + m) * bytes ≤ 140737488355328) (hbase : base ≤ w.heap.size)
    (h : ∀ v' w', w'.ownsRow base e size v' (n + m) (xs ++ news) → Upd (fun b => v.ownBlock = some b) w w' → (∀ g, v'.ownBlock = some g → v.ownBlock = some g ∨ w.heap.size ≤ g) → K (a.put o.dst v') w') :
    wpOp P ops Q i K a w := by
  refine wpOp_step ho fun K' hK => ?_
  rw [if_pos (by simp [Region.wanted, hg])]
  obtain ⟨v', w', hr, h2, h3, h4⟩ := run_append_mine (P := P) (w := w) base t o.type e i' z size bytes ht hi hz hsize hby hzs hsz v n xs hown ad m c news hl hnews h1 h63 hbytes hbase
  unfold Oper.wp execOp
  simp only [hop, resolve, invoke, builtin, Sem.run_bind, Sem.run_pure, Result.andThen_ok, List.map_toArray, List.map_cons, List.map_nil, hs, hx, hr]
  exact hK _ _ (h v' w' h2 h3 h4)
theorem wpOp_load {i : Nat} {o : Oper} {T : TypeId} {x : Operand} {K : Act → World → Prop} {a : Act} {w : World} (ho : ops[i]? = some o) (hg : o.guard = none)
    (hop : o.op = .load T x) (p v : Value) (hx : a.eval x = p) (hr : (Instr.loadAt T p).run P w = .ok v w)
    (hk : K (a.put o.dst v) w) : wpOp P ops Q i K a w := by
  refine wpOp_step ho fun K' hK => ?_
  rw [if_pos (by simp [Region.wanted, hg])]
  unfold Oper.wp execOp
  simp only [hop, hx, Sem.run_bind, Sem.run_pure, Result.andThen_ok, hr]
  exact hK _ _ hk
end

def one (b : Nat) : Value := .slice (some ⟨b, 0, none⟩) 1 1
def iff1 (b : Bool) (v : Value) : Option Value := if b then some v else none
def grown (a0 : Act) (sv tv : Value) (y1 y2 : Option Nat) (x1 x2 : Bool) (v1 v2 : Option Value) : Act :=
  puts a0 [(130, iff1 x1 sv), (132, y1.map one), (133, v1), (137, iff1 x2 tv), (139, y2.map one), (140, v2)]

/-- Two lists that may grow by one each. -/
structure Gr (a0 : Act) (W : World) (pb : Nat) (sv tv : Value) (n m : Nat) (xs ys cs ds : List Value) (x1 x2 : Bool) (y1 y2 : Option Nat) (v1 v2 : Option Value) (a : Act) (w : World) : Prop where
  act : a = grown a0 sv tv y1 y2 x1 x2 v1 v2
  upd : Upd (fun b => sv.ownBlock = some b ∨ tv.ownBlock = some b) W w
  row1 : v1 = none → w.ownsRow 0 66 4 sv n xs
  row2 : v2 = none → w.ownsRow 0 93 3 tv m ys
  b1 : ∀ b, y1 = some b → W.heap.size ≤ b ∧ (v1 = none → w.heap[b]? = some (.cells cs.toArray 66 (0, 0)))
  b2 : ∀ b, y2 = some b → W.heap.size ≤ b ∧ (v2 = none → w.heap[b]? = some (.cells ds.toArray 93 (0, 0)))
  o1 : ∀ v, v1 = some v → w.ownsRow 0 66 4 v (n + 1) (xs ++ cs) ∧ ∀ g, v.ownBlock = some g → sv.ownBlock = some g ∨ W.heap.size ≤ g
  o2 : ∀ v, v2 = some v → w.ownsRow 0 93 3 v (m + 1) (ys ++ ds) ∧ ∀ g, v.ownBlock = some g → (tv.ownBlock = some g ∨ W.heap.size ≤ g) ∧ ∀ v', v1 = some v' → v'.ownBlock ≠ some g

section
variable {a0 : Act} {W : World} {pb : Nat} {sv tv : Value} {n m : Nat} {xs ys cs ds : List Value} {x1 x2 : Bool} {y1 y2 : Option Nat} {v1 v2 : Option Value} {a : Act} {w w' : World}
theorem Gr.load1 (h : Gr a0 W pb sv tv n m xs ys cs ds false x2 y1 y2 v1 v2 a w) : Gr a0 W pb sv tv n m xs ys cs ds true x2 y1 y2 v1 v2 (a.put (some 130) sv) w :=
  ⟨by rw [h.act]; exact puts_put _ [] _ 130 _ (by simp), h.upd, h.row1, h.row2, h.b1, h.b2, h.o1, h.o2⟩
theorem Gr.load2 (h : Gr a0 W pb sv tv n m xs ys cs ds x1 false y1 y2 v1 v2 a w) : Gr a0 W pb sv tv n m xs ys cs ds x1 true y1 y2 v1 v2 (a.put (some 137) tv) w :=
  ⟨by rw [h.act]; exact puts_put _ [_, _, _] _ 137 _ (by simp), h.upd, h.row1, h.row2, h.b1, h.b2, h.o1, h.o2⟩
theorem Gr.build1 (h : Gr a0 W pb sv tv n m xs ys cs ds x1 x2 none y2 none none a w) :
    Gr a0 W pb sv tv n m xs ys cs ds x1 x2 (some w.heap.size) y2 none none (a.put (some 132) (one w.heap.size)) (w.alloc (.cells cs.toArray 66)) := by
  have u : Below w.heap.size w (w.alloc (.cells cs.toArray 66)) := (Below.refl _ _).alloc (Nat.le_refl _) _
  refine ⟨by rw [h.act]; exact puts_put _ [_] _ 132 _ (by simp), h.upd.alloc _, fun _ => ownsRow_upd (h.row1 rfl) (Upd.same (S := fun _ => False) u) (fun _ _ => id), fun _ => ownsRow_upd (h.row2 rfl) (Upd.same (S := fun _ => False) u) (fun _ _ => id), ?_, ?_, (fun v e => by cases e), (fun v e => by cases e)⟩
  · intro b hb
    obtain rfl := Option.some.inj hb
    exact ⟨h.upd.size, fun _ => heap_new1 w _⟩
  · intro b hb
    exact ⟨(h.b2 b hb).1, fun e => (Upd.same (S := fun _ => False) u).heap ((h.b2 b hb).2 e) id⟩
theorem Gr.build2 (h : Gr a0 W pb sv tv n m xs ys cs ds x1 x2 y1 none v1 none a w) :
    Gr a0 W pb sv tv n m xs ys cs ds x1 x2 y1 (some w.heap.size) v1 none (a.put (some 139) (one w.heap.size)) (w.alloc (.cells ds.toArray 93)) := by
  have u : Below w.heap.size w (w.alloc (.cells ds.toArray 93)) := (Below.refl _ _).alloc (Nat.le_refl _) _
  refine ⟨by rw [h.act]; exact puts_put _ [_, _, _, _] _ 139 _ (by simp), h.upd.alloc _, fun e => ownsRow_upd (h.row1 e) (Upd.same (S := fun _ => False) u) (fun _ _ => id), fun _ => ownsRow_upd (h.row2 rfl) (Upd.same (S := fun _ => False) u) (fun _ _ => id), ?_, ?_, ?_, (fun v e => by cases e)⟩
  · intro b hb
    exact ⟨(h.b1 b hb).1, fun e => (Upd.same (S := fun _ => False) u).heap ((h.b1 b hb).2 e) id⟩
  · intro b hb
    obtain rfl := Option.some.inj hb
    exact ⟨h.upd.size, fun _ => heap_new1 w _⟩
  · intro v e
    exact ⟨ownsRow_upd (h.o1 v e).1 (Upd.same (S := fun _ => False) u) (fun _ _ => id), (h.o1 v e).2⟩
theorem Gr.grow1 {b : Nat} {v : Value} (h : Gr a0 W pb sv tv n m xs ys cs ds x1 x2 (some b) y2 none none a w) (hs : ∀ g, sv.ownBlock = some g → g < W.heap.size ∧ tv.ownBlock ≠ some g)
    (hr : w'.ownsRow 0 66 4 v (n + 1) (xs ++ cs)) (u : Upd (fun b => sv.ownBlock = some b) w w') (hn : ∀ g, v.ownBlock = some g → sv.ownBlock = some g ∨ w.heap.size ≤ g) :
    Gr a0 W pb sv tv n m xs ys cs ds x1 x2 (some b) y2 (some v) none (a.put (some 133) v) w' := by
  refine ⟨by rw [h.act]; exact puts_put _ [_, _] _ 133 _ (by simp), h.upd.trans_new u (fun b _ e => .inl e), (fun e => by cases e), fun _ => ownsRow_upd (h.row2 rfl) u (fun g e e2 => (hs g e2).2 e), ?_, ?_, ?_, (fun v e => by cases e)⟩
  · intro b' hb
    exact ⟨(h.b1 b' hb).1, fun e => by cases e⟩
  · intro b' hb
    exact ⟨(h.b2 b' hb).1, fun e => u.heap ((h.b2 b' hb).2 e) (fun e2 => by have := (hs b' e2).1; have := (h.b2 b' hb).1; omega)⟩
  · intro v' e
    obtain rfl := Option.some.inj e
    exact ⟨hr, fun g hg => (hn g hg).imp id (fun x => Nat.le_trans h.upd.size x)⟩
theorem Gr.grow2 {b b' : Nat} {v v' : Value} (h : Gr a0 W pb sv tv n m xs ys cs ds x1 x2 (some b) (some b') (some v) none a w) (hs : ∀ g, sv.ownBlock = some g → g < W.heap.size ∧ tv.ownBlock ≠ some g) (ht : ∀ g, tv.ownBlock = some g → g < W.heap.size)
    (hr : w'.ownsRow 0 93 3 v' (m + 1) (ys ++ ds)) (u : Upd (fun b => tv.ownBlock = some b) w w') (hn : ∀ g, v'.ownBlock = some g → tv.ownBlock = some g ∨ w.heap.size ≤ g) :
    Gr a0 W pb sv tv n m xs ys cs ds x1 x2 (some b) (some b') (some v) (some v') (a.put (some 140) v') w' := by
  obtain ⟨k1, k2⟩ := h.o1 v rfl
  have ne : ∀ g, v.ownBlock = some g → tv.ownBlock ≠ some g := fun g hg e => by
    rcases k2 g hg with e2 | e2
    · exact (hs g e2).2 e
    · have := ht g e; omega
  refine ⟨by rw [h.act]; exact puts_put _ [_, _, _, _, _] _ 140 _ (by simp), h.upd.trans_new u (fun b _ e => .inr e), (fun e => by cases e), (fun e => by cases e), ?_, ?_, ?_, ?_⟩
  · intro b' hb
    exact ⟨(h.b1 b' hb).1, fun e => by cases e⟩
  · intro b' hb
    exact ⟨(h.b2 b' hb).1, fun e => by cases e⟩
  · intro v2 e
    obtain rfl := Option.some.inj e
    exact ⟨ownsRow_upd k1 u ne, k2⟩
  · intro v2 e
    obtain rfl := Option.some.inj e
    refine ⟨hr, fun g hg => ⟨(hn g hg).imp id (fun x => Nat.le_trans h.upd.size x), fun v3 e3 hg3 => ?_⟩⟩
    obtain rfl := Option.some.inj e3
    rcases hn g hg with e4 | e4
    · exact ne g hg3 e4
    · have := (World.ownsRow.lt k1 g hg3).2; omega

theorem cells_at {b T : Nat} {cs : List Value} (h : w.heap[b]? = some (.cells cs.toArray T (0, 0))) : ∀ j u, cs[j]? = some u → w.cell? ((⟨b, 0, none⟩ : Addr).add j) = some u := by
  intro j u hj
  rw [Addr.add_mid, Nat.zero_add]
  exact cell_of_block h (by simpa using hj)


/-- What may come up till both have grown. -/
def growReady (x1 y1 v1 x2 y2 : Bool) : List Nat :=
  (if x1 then [] else [5]) ++ (if y1 then [] else [7]) ++ (if x1 && y1 && !v1 then [8] else []) ++ (if x2 then [] else [12]) ++ (if y2 then [] else [14]) ++ (if v1 && x2 && y2 then [15] else [])

theorem growReady_ne : ∀ x1 y1 v1 x2 y2 : Bool, (v1 = true → x1 = true ∧ y1 = true) → growReady x1 y1 v1 x2 y2 ≠ [] := by decide
theorem grow_region {md : Region.Mode} {ops : Array Oper} {Q : Exit → Act → World → Prop} {S : World → Prop} (Ls : Bool → Bool → Bool → Bool → Bool → Bool → Array Bool)
    (hL1 : ∀ b2 b3 b4 b5 b6, (Ls false b2 b3 b4 b5 b6).setIfInBounds 5 true = Ls true b2 b3 b4 b5 b6) (hL2 : ∀ b1 b3 b4 b5 b6, (Ls b1 false b3 b4 b5 b6).setIfInBounds 7 true = Ls b1 true b3 b4 b5 b6)
    (hL3 : ∀ b1 b2 b4 b5 b6, (Ls b1 b2 false b4 b5 b6).setIfInBounds 8 true = Ls b1 b2 true b4 b5 b6) (hL4 : ∀ b1 b2 b3 b5 b6, (Ls b1 b2 b3 false b5 b6).setIfInBounds 12 true = Ls b1 b2 b3 true b5 b6)
    (hL5 : ∀ b1 b2 b3 b4 b6, (Ls b1 b2 b3 b4 false b6).setIfInBounds 14 true = Ls b1 b2 b3 b4 true b6) (hL6 : ∀ b1 b2 b3 b4 b5, (Ls b1 b2 b3 b4 b5 false).setIfInBounds 15 true = Ls b1 b2 b3 b4 b5 true)
    (hrd : ∀ b1 b2 b3 b4 b5, Region.ready md ops (Ls b1 b2 b3 b4 b5 false) = growReady b1 b2 b3 b4 b5)
    {o0 o1 o2 o5 o3 o4 : Oper} (ho0 : ops[5]? = some o0) (ho1 : ops[7]? = some o1) (ho2 : ops[8]? = some o2) (ho5 : ops[12]? = some o5) (ho3 : ops[14]? = some o3) (ho4 : ops[15]? = some o4)
    (hg0 : o0.guard = none) (hg1 : o1.guard = none) (hg2 : o2.guard = none) (hg5 : o5.guard = none) (hg3 : o3.guard = none) (hg4 : o4.guard = none)
    (hd0 : o0.dst = some 130) (hd1 : o1.dst = some 132) (hd2 : o2.dst = some 133) (hd5 : o5.dst = some 137) (hd3 : o3.dst = some 139) (hd4 : o4.dst = some 140)
    (hc0 : o0.op = .load 61 (.tmp 129)) (hc5 : o5.op = .load 62 (.tmp 136))
    (hc1 : o1.op = .buildSlice 61 1 #[(0, .tmp 131)]) (hc2 : o2.op = .call { callee := .builtin .append, args := #[.tmp 130, .tmp 132], argTypes := #[61, 61] })
    (hc3 : o3.op = .buildSlice 62 1 #[(0, .tmp 138)]) (hc4 : o4.op = .call { callee := .builtin .append, args := #[.tmp 137, .tmp 139], argTypes := #[62, 62] })
    {z1 z2 z3 z4 : Value} {z5 z6 z7 : Value} (hr1 : W.ownsRow 0 66 4 sv n xs) (hr2 : W.ownsRow 0 93 3 tv m ys) (hn : n ≤ 1000000) (hm : m ≤ 1000000)
    (hz : ∀ u ∈ [z1, z2, z3, z4, z5, z6, z7], u.oneCell' = true)
    (hs : ∀ g, sv.ownBlock = some g → tv.ownBlock ≠ some g) (hpb : W.cell? ⟨pb, 2, none⟩ = some sv) (hpb2 : W.cell? ⟨pb, 3, none⟩ = some tv) (hps : sv.ownBlock ≠ some pb) (hpt : tv.ownBlock ≠ some pb)
    (e1 : a0.eval (.tmp 129) = .pointer (some ⟨pb, 2, none⟩)) (e2 : a0.eval (.tmp 131) = .agg #[z1, z2, z3, z4]) (e3 : a0.eval (.tmp 136) = .pointer (some ⟨pb, 3, none⟩)) (e4 : a0.eval (.tmp 138) = .agg #[z5, z6, z7]) (hsz : 145 < a0.tmps.size)
    (hS : ∀ w', Upd (fun b => sv.ownBlock = some b ∨ tv.ownBlock = some b) W w' → S w')
    (hQ : ∀ b b' v v' w', Gr a0 W pb sv tv n m xs ys [z1, z2, z3, z4] [z5, z6, z7] true true (some b) (some b') (some v) (some v') (grown a0 sv tv (some b) (some b') true true (some v) (some v')) w' →
      ∀ fuel, fuel = (Ls true true true true true true).toList.count false → wpAnyH Try.prog md ops Q S fuel (Ls true true true true true true) (grown a0 sv tv (some b) (some b') true true (some v) (some v')) w') (fuel : Nat) (hfu : fuel = (Ls false false false false false false).toList.count false) :
    wpAnyH Try.prog md ops Q S fuel (Ls false false false false false false) a0 W := by
  obtain ⟨i66, hi66, hz66, hs66, hb66⟩ := info_parts Try.info66
  obtain ⟨i93, hi93, hz93, hs93, hb93⟩ := info_parts Try.info93
  have u61 : Try.prog.underlying 61 = some (.slice 66) := by kernel_rfl
  have u62 : Try.prog.underlying 62 = some (.slice 93) := by kernel_rfl
  have lt1 : ∀ g, sv.ownBlock = some g → g < W.heap.size ∧ tv.ownBlock ≠ some g := fun g hg => ⟨(World.ownsRow.lt hr1 g hg).2, hs g hg⟩
  have lt2 : ∀ g, tv.ownBlock = some g → g < W.heap.size := fun g hg => (World.ownsRow.lt hr2 g hg).2
  have one4 : ∀ u ∈ [z1, z2, z3, z4], u.oneCell' = true := fun u hu => hz u (by simp at hu ⊢; rcases hu with h | h | h | h <;> simp [h])
  have one3 : ∀ u ∈ [z5, z6, z7], u.oneCell' = true := fun u hu => hz u (by simp at hu ⊢; rcases hu with h | h | h <;> simp [h])
  obtain ⟨sa, sc, hsv⟩ := ownsRow_slice hr1
  obtain ⟨ta, tc, htv⟩ := ownsRow_slice hr2
  refine wpAnyH_till (fun l a w => ∃ x1 x2 y1 y2 v1 v2, l = Ls x1 y1.isSome v1.isSome x2 y2.isSome v2.isSome ∧ Gr a0 W pb sv tv n m xs ys [z1, z2, z3, z4] [z5, z6, z7] x1 x2 y1 y2 v1 v2 a w ∧
      (v1.isSome = true → x1 = true ∧ y1.isSome = true) ∧ (v2.isSome = true → v1.isSome = true ∧ x2 = true ∧ y2.isSome = true)) ?_ fuel _ _ _ hfu
    ⟨false, false, none, none, none, none, rfl, ⟨rfl, Upd.refl _ _, fun _ => hr1, fun _ => hr2, (fun b e => by cases e), (fun b e => by cases e), (fun b e => by cases e), (fun b e => by cases e)⟩, (fun e => by cases e), fun e => by cases e⟩
  rintro l a w ⟨x1, x2, y1, y2, v1, v2, rfl, h, k1, k2⟩
  cases v2 with
  | some v' =>
    left
    obtain ⟨k3, k4, k5⟩ := k2 rfl
    obtain ⟨k6, k7⟩ := k1 k3
    subst k4 k6
    cases v1 with
    | none => cases k3
    | some v =>
      cases y1 with
      | none => cases k7
      | some b =>
        cases y2 with
        | none => cases k5
        | some b' =>
          have ha := h.act
          subst ha
          exact hQ _ _ _ _ _ h
  | none =>
    right
    rw [show (none : Option Value).isSome = false from rfl, hrd]
    refine ⟨?_, ?_⟩
    · exact growReady_ne _ _ _ _ _ k1
    intro i hi
    simp only [growReady, List.mem_append] at hi
    rcases hi with ((((hi | hi) | hi) | hi) | hi) | hi
    · cases x1 with
      | true => simp at hi
      | false =>
        obtain rfl : i = 5 := by simpa using hi
        have hc := h.upd.cell (a := ⟨pb, 2, none⟩) hpb (fun e => e.elim hps hpt)
        refine wpOp_load ho0 hg0 hc0 (.pointer (some ⟨pb, 2, none⟩)) sv (by rw [h.act]; exact (eval_puts_not _ _ _ (by simp)).trans e1) (by subst hsv; simp [go_sem, hc]) ?_
        rw [hd0]
        exact ⟨hS _ h.upd, true, x2, y1, y2, v1, none, hL1 _ _ _ _ _, h.load1, (fun e => ⟨rfl, (k1 e).2⟩), fun e => by cases e⟩
    · cases y1 with
      | some b => simp at hi
      | none =>
        obtain rfl : i = 7 := by simpa using hi
        cases v1 with
        | some v => simpa using (k1 rfl).2
        | none =>
          refine wpOp_build ho1 hg1 hc1 (.agg #[z1, z2, z3, z4]) (one w.heap.size) (w.alloc (.cells #[z1, z2, z3, z4] 66)) (by rw [h.act]; exact (eval_puts_not _ _ _ (by simp)).trans e2) (by simp [go_sem, one]) ?_
          rw [hd1]
          exact ⟨hS _ h.build1.upd, x1, x2, some w.heap.size, y2, none, none, hL2 _ _ _ _ _, h.build1, (fun e => by cases e), fun e => by cases e⟩
    · cases v1 with
      | some v => simp at hi
      | none =>
        cases y1 with
        | none => simp at hi
        | some b =>
          obtain ⟨hx, rfl⟩ : x1 = true ∧ i = 8 := by simpa using hi
          subst hx
          refine wpOp_append ho2 hg2 _ _ _ hc2 0 66 i66 _ 4 48 u61 hi66 hz66 hs66 hb66 rfl (by decide) sv n xs (by rw [h.act]; exact eval_puts _ [] _ 130 _ (by simp) (by omega)) (h.row1 rfl)
            ⟨b, 0, none⟩ 1 1 [z1, z2, z3, z4] (by rw [h.act]; exact eval_puts _ [_] _ 132 _ (by simp) (by omega)) rfl (cells_at ((h.b1 b rfl).2 rfl)) one4 (by simp only [maxLen]; omega) (by omega) (Nat.zero_le _) fun v' w' m1 m2 m3 => ?_
          rw [hd2]
          have h' := h.grow1 lt1 m1 m2 m3
          exact ⟨hS _ h'.upd, true, x2, some b, y2, some v', none, hL3 _ _ _ _ _, h', (fun _ => ⟨rfl, rfl⟩), fun e => by cases e⟩
    · cases x2 with
      | true => simp at hi
      | false =>
        obtain rfl : i = 12 := by simpa using hi
        have hc := h.upd.cell (a := ⟨pb, 3, none⟩) hpb2 (fun e => e.elim hps hpt)
        refine wpOp_load ho5 hg5 hc5 (.pointer (some ⟨pb, 3, none⟩)) tv (by rw [h.act]; exact (eval_puts_not _ _ _ (by simp)).trans e3) (by subst htv; simp [go_sem, hc]) ?_
        rw [hd5]
        exact ⟨hS _ h.upd, x1, true, y1, y2, v1, none, hL4 _ _ _ _ _, h.load2, k1, fun e => by cases e⟩
    · cases y2 with
      | some b => simp at hi
      | none =>
        obtain rfl : i = 14 := by simpa using hi
        refine wpOp_build ho3 hg3 hc3 (.agg #[z5, z6, z7]) (one w.heap.size) (w.alloc (.cells #[z5, z6, z7] 93)) (by rw [h.act]; exact (eval_puts_not _ _ _ (by simp)).trans e4) (by simp [go_sem, one]) ?_
        rw [hd3]
        exact ⟨hS _ h.build2.upd, x1, x2, y1, some w.heap.size, v1, none, hL5 _ _ _ _ _, h.build2, k1, fun e => by cases e⟩
    · cases v1 with
      | none => simp at hi
      | some v =>
        cases y2 with
        | none => simp at hi
        | some b' =>
          obtain ⟨hx, rfl⟩ : x2 = true ∧ i = 15 := by simpa using hi
          obtain ⟨k6, k7⟩ := k1 rfl
          subst hx k6
          cases y1 with
          | none => cases k7
          | some b =>
            refine wpOp_append ho4 hg4 _ _ _ hc4 0 93 i93 _ 3 40 u62 hi93 hz93 hs93 hb93 rfl (by decide) tv m ys (by rw [h.act]; exact eval_puts _ [_, _, _] _ 137 _ (by simp) (by omega)) (h.row2 rfl)
              ⟨b', 0, none⟩ 1 1 [z5, z6, z7] (by rw [h.act]; exact eval_puts _ [_, _, _, _] _ 139 _ (by simp) (by omega)) rfl (cells_at ((h.b2 b' rfl).2 rfl)) one3 (by simp only [maxLen]; omega) (by omega) (Nat.zero_le _) fun v' w' m1 m2 m3 => ?_
            rw [hd4]
            have h' := h.grow2 lt1 lt2 m1 m2 m3
            exact ⟨hS _ h'.upd, true, true, some b, some b', some v, some v', hL6 _ _ _ _ _, h', (fun _ => ⟨rfl, rfl⟩), fun _ => ⟨rfl, rfl, rfl⟩⟩
end
end Go.Proofs.Ytdohkjpapmkhjaa
