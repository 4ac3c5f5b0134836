/-
  SMALL FACTS ABOUT MEMORY, for all texts of this seat. No function is named.
-/
import Derived.Test.YtifcdfilglbdgaaMem
import Derived.Test.YtifcdfilglbdgaaRows
import Derived.IntWalk
namespace Go.Proofs.Ytifcdfilglbdgaa
open Go.RowKit
section
variable {w w' w1 : World}
theorem keeper (u : Below w.heap.size w w') {a : Addr} {x : Value} (h : w.cell? a = some x) : w'.cell? a = some x := (Upd.same (S := fun _ => False) u).cell h id
theorem keepb (u : Below w.heap.size w w') {b : Nat} {o : Obj} (h : w.heap[b]? = some o) : w'.heap[b]? = some o := (Upd.same (S := fun _ => False) u).heap h id
theorem below_drewN {n : Nat} {B : Nat} {w : World} : Below B w (w.drewN n) := ⟨rfl, rfl, rfl, Nat.le_refl _, fun _ _ => rfl⟩
theorem below_alloc (w : World) (o : Obj) : Below w.heap.size w (w.alloc o) := (Below.refl _ _).alloc (Nat.le_refl _) o
theorem below_then (h : Below w.heap.size w w') (k : Below w'.heap.size w' w1) : Below w.heap.size w w1 := h.trans (k.mono h.size)
theorem heap_new1 (w : World) (o : Obj) : (w.alloc o).heap[w.heap.size]? = some o := heap_alloc_new w o
theorem heap_new2 (w : World) (o o' : Obj) : ((w.alloc o).alloc o').heap[w.heap.size + 1]? = some o' := by
  have := heap_new1 (w.alloc o) o'
  simpa using this
theorem row_same {base e size n : Nat} {v : Value} {xs : List Value} (h : w.ownsRow base e size v n xs) (u : Below w.heap.size w w') : w'.ownsRow base e size v n xs := ownsRow_upd h (S := fun _ => False) (Upd.same u) (fun _ _ x => x)
theorem row_block {base e size n : Nat} {v : Value} {xs : List Value} (h : w.ownsRow base e size v n xs) {g : Nat} (hg : v.ownBlock = some g) : ∃ cur, w.heap[g]? = some (.cells cur e (0, 0)) := by
  rcases h.2 with ⟨rfl, _⟩ | ⟨g1, cap1, cur1, rfl, _, k1, _⟩
  · cases hg
  · simp only [Value.ownBlock, Option.some.injEq] at hg
    subst hg
    exact ⟨cur1, k1⟩
theorem block_ne {b b' T T' : Nat} {x y : Array Value} {f f' : Nat × Nat} (h : w.heap[b]? = some (.cells x T f)) (h' : w.heap[b']? = some (.cells y T' f')) (hT : T ≠ T') : b ≠ b' := fun e => by
  subst e
  rw [h] at h'
  simp at h'
  exact hT h'.2.1
theorem quiet_eq {P : Program} {f : FuncId} {args : Array Value} {n : Nat} {v : Value} (h : Calls P f args (w.drewN n) fun e w' => e = .returned v ∧ w.drewN n = w') : Calls P f args (w.drewN n) fun e w'' => e = .returned v ∧ ∃ m, w'' = w.drewN m :=
  h.mono fun _ _ ⟨he, hm⟩ => ⟨he, n, hm.symm⟩
end
end Go.Proofs.Ytifcdfilglbdgaa
