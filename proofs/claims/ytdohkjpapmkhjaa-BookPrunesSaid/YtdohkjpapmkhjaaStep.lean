/-
  STEPS OF A REGION THAT DRAWS: an append to a row of one's own; the cells that a region reads, kept. No function is named. No condition.
-/
import Derived.Test.YtdohkjpapmkhjaaGrow
namespace Go.Proofs.Ytdohkjpapmkhjaa
open Go.RowKit

/-- append to a row of one's own, as one step of a region that draws. -/
theorem step_append_mine {P : Program} {ops : Array Oper} {o : Oper} {a : Act} {w : World} {K : Act → World → Prop} {Q : Exit → Act → World → Prop} {E : Prop}
    (hg : o.guard = none) (s x : Operand) (t : TypeId) (hop : o.op = .call { callee := .builtin .append, args := #[s, x], argTypes := #[t, t] })
    (base : Nat) (e : TypeId) (i' : TypeInfo) (z : Value) (size bytes : Nat) (ht : P.underlying t = some (.slice e)) (hi : P.info? e = some i') (hz : i'.zero = some z)
    (hsize : i'.size = size) (hby : i'.bytes = bytes) (hzs : z.cells.size = size) (hsz : 0 < size)
    (v : Value) (n : Nat) (xs : List Value) (hs : a.eval s = v) (hown : w.ownsRow base e size v n xs)
    (ad : Addr) (m c : Nat) (news : List Value) (hx : a.eval x = .slice (some ad) m c) (hl : news.length = m * size) (hnews : ∀ j u, news[j]? = some u → w.cell? (ad.add j) = some u) (h1 : ∀ u ∈ news, u.oneCell' = true)
    (h63 : n + m ≤ maxLen) (hbytes : (n + m) * bytes ≤ 140737488355328) (hbase : base ≤ w.heap.size)
    (h : ∀ v' w', w'.ownsRow base e size v' (n + m) (xs ++ news) → Upd (fun b => v.ownBlock = some b) w w' → (∀ g, v'.ownBlock = some g → v.ownBlock = some g ∨ w.heap.size ≤ g) → K (a.put o.dst v') w') :
    if Region.wanted o (yielded ops a.tmps) = true then Oper.wp P o a w K Q else E := by
  rw [if_pos (by simp [Region.wanted, hg])]
  obtain ⟨v', w', hr, h2, h3, h4⟩ := run_append_mine (P := P) (w := w) base t o.type e i' z size bytes ht hi hz hsize hby hzs hsz v n xs hown ad m c news hl hnews h1 h63 hbytes hbase
  unfold Oper.wp execOp
  simp only [hop, resolve, invoke, builtin, Sem.run_bind, Sem.run_pure, Result.andThen_ok, List.map_toArray, List.map_cons, List.map_nil, hs, hx, hr]
  exact h v' w' h2 h3 h4

/-- Five cells, of two blocks. -/
theorem cells5 {w w' : World} {p : Addr} {o0 o1 o2 o3 : Addr} {v v0 v1 v2 v3 : Value} {S : Nat → Prop}
    (h : w.cell? p = some v ∧ w.cell? o0 = some v0 ∧ w.cell? o1 = some v1 ∧ w.cell? o2 = some v2 ∧ w.cell? o3 = some v3) (u : Upd S w w')
    (hp : ¬ S p.block) (h0 : ¬ S o0.block) (h1 : ¬ S o1.block) (h2 : ¬ S o2.block) (h3 : ¬ S o3.block) :
    w'.cell? p = some v ∧ w'.cell? o0 = some v0 ∧ w'.cell? o1 = some v1 ∧ w'.cell? o2 = some v2 ∧ w'.cell? o3 = some v3 :=
  ⟨u.cell h.1 hp, u.cell h.2.1 h0, u.cell h.2.2.1 h1, u.cell h.2.2.2.1 h2, u.cell h.2.2.2.2 h3⟩
theorem cells5_same {w w' : World} {p : Addr} {o0 o1 o2 o3 : Addr} {v v0 v1 v2 v3 : Value}
    (h : w.cell? p = some v ∧ w.cell? o0 = some v0 ∧ w.cell? o1 = some v1 ∧ w.cell? o2 = some v2 ∧ w.cell? o3 = some v3) (u : Below w.heap.size w w') :
    w'.cell? p = some v ∧ w'.cell? o0 = some v0 ∧ w'.cell? o1 = some v1 ∧ w'.cell? o2 = some v2 ∧ w'.cell? o3 = some v3 :=
  ⟨(Upd.same (S := fun _ => False) u).cell h.1 id, (Upd.same (S := fun _ => False) u).cell h.2.1 id, (Upd.same (S := fun _ => False) u).cell h.2.2.1 id, (Upd.same (S := fun _ => False) u).cell h.2.2.2.1 id, (Upd.same (S := fun _ => False) u).cell h.2.2.2.2 id⟩
theorem cells7_same {w w' : World} {p0 p1 p2 p3 p4 p5 p6 : Addr} {v0 v1 v2 v3 v4 v5 v6 : Value}
    (h : w.cell? p0 = some v0 ∧ w.cell? p1 = some v1 ∧ w.cell? p2 = some v2 ∧ w.cell? p3 = some v3 ∧ w.cell? p4 = some v4 ∧ w.cell? p5 = some v5 ∧ w.cell? p6 = some v6) (u : Below w.heap.size w w') :
    w'.cell? p0 = some v0 ∧ w'.cell? p1 = some v1 ∧ w'.cell? p2 = some v2 ∧ w'.cell? p3 = some v3 ∧ w'.cell? p4 = some v4 ∧ w'.cell? p5 = some v5 ∧ w'.cell? p6 = some v6 :=
  have k : ∀ {a : Addr} {v : Value}, w.cell? a = some v → w'.cell? a = some v := fun e => (Upd.same (S := fun _ => False) u).cell e id
  ⟨k h.1, k h.2.1, k h.2.2.1, k h.2.2.2.1, k h.2.2.2.2.1, k h.2.2.2.2.2.1, k h.2.2.2.2.2.2⟩
end Go.Proofs.Ytdohkjpapmkhjaa
