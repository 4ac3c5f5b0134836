/- The frame of a card: no function of the program starts a goroutine. · The row's closed facts, part by part. No conditions. -/
import Derived.Test.YtnkjnclpakfgnaaGreatDoorTie
import Derived.Test.YtnkjnclpakfgnaaGreatDoorCards
import Derived.SevenTiedAt
import Derived.JoinedOf
import Derived.ProofKit
import Derived.OpenShut
import Derived.Carry
namespace Go.Proofs.YtnkjnclpakfgnaaGreatDoor
open Go

theorem none_goes : (Tryz.prog.funcs.toList.any Func.goes) = false := by kernel_rfl
theorem goes_no (f : String) : false = Tryz.prog.goesFrom f := by
 have h : ∀ (g : Nat) (fn : Func), Tryz.prog.funcs[g]? = some fn → fn.goes = false := fun g fn hg => by
  have hm : fn ∈ Tryz.prog.funcs.toList := by
   rw [Array.getElem?_eq_some_iff] at hg
   obtain ⟨hl, rfl⟩ := hg
   exact Array.getElem_mem_toList hl
  have := List.any_eq_false.1 none_goes fn hm
  simpa using this
 have h2 : ∀ g, Tryz.prog.goes g = false := fun g => by
  unfold Program.goes
  rw [Bool.or_eq_false_iff]
  constructor
  · rw [List.any_eq_false]
    intro x _
    cases hx : Tryz.prog.funcs[x]? with
    | none => simp
    | some fn => simp [h x fn hx]
  · have : Tryz.prog.funcs.any Func.goes = false := by rw [← Array.any_toList]; exact none_goes
    rw [this, Bool.and_false]
 unfold Program.goesFrom
 cases Tryz.prog.funcNamed f with
 | none => rfl
 | some g => simp [h2 g]
end Go.Proofs.YtnkjnclpakfgnaaGreatDoor
namespace Go.Proofs.YtnkjnclpakfgnaaGreatDoor
open Go.ChangeShapes Go.WideShapes Go.ChangeAt Go.RowKit
set_option maxRecDepth 100000

theorem k1 : Rows.topSteadyRow.wf (OpenSpec.ofChange Rows.topSteadySpec) = true := by kernel_rfl
theorem k2 : laidOutB Tryz.prog = true := by kernel_rfl
theorem k3 : mapsRowed Tryz.prog = true := by kernel_rfl
theorem k10 : (Rows.topSteadyRow.inPlace == Tryz.prog.inPlace 4) = true := by kernel_rfl
theorem k11 : (Rows.topSteadyRow.unfollowed == Tryz.prog.unfollowed 4) = true := by kernel_rfl
theorem k12 : (Rows.topSteadyRow.recurses == Tryz.prog.recurses 4) = true := by kernel_rfl
theorem k13 : (Rows.topSteadyRow.named == Tryz.prog.varsNamed 4) = true := by kernel_rfl
set_option maxHeartbeats 4000000 in
theorem facts : joinedFacts Tryz.prog 4 Tryz.f4 Rows.topSteadySpec Rows.topSteadyRow = true := by
  simp only [joinedFacts, Bool.and_eq_true]
  and_intros
  all_goals first | with_reducible exact k1 | with_reducible exact k2 | with_reducible exact k3 | with_reducible exact k10 | with_reducible exact k11 | with_reducible exact k12 | with_reducible exact k13 | as_aux_lemma => kernel_rfl

theorem trodAll_below {H : Type} {enc : TypeId × Value → H} {P : Program} (hl : laidOutB P = true) {W W' : World} (hb : Below W.heap.size W W') :
    ∀ {ts : List TypeId} {vs : List Value} {ds : List (DataW H)} {ps : List MemPlace}, (∀ t ∈ ts, P.readableRec t = true ∧ t < P.types.size) →
      DataW.TrodAll enc P W 0 (fun _ => true) true ts vs ds ps → (∀ x ∈ ps, x.block < W.heap.size) → DataW.TrodAll enc P W' 0 (fun b => decide (b < W.heap.size)) true ts vs ds ps
  | [], _, _, _, _, h, _ => by
    obtain ⟨rfl, rfl, rfl⟩ := trodAll_nil h
    exact trodAll_mk0
  | t :: ts, _, _, _, hr, h, hlt => by
    obtain ⟨v, vs', d, ds', p, q, rfl, rfl, rfl, h0, r0⟩ := trodAll_cons h
    have ht := hr t (by simp)
    exact trodAll_cons_mk (Below.trod hl ht.1 ht.2 h0 hb (fun x hx => hlt x (by simp [hx])))
      (trodAll_below hl hb (fun u hu => hr u (by simp [hu])) r0 (fun x hx => hlt x (by simp [hx])))
theorem law_post {H : Type} {enc : TypeId × Value → H} {P : Program} {f : Func} {s : ChangeSpec} {t : TypeId} {W W' : World} {args : Array Value} {ds gs : List (DataW H)} {before : List MemPlace}
    (hl : laidOutB P = true) (ht : P.underlying t = some .bool) (hr : f.params.toList.all (fun t => P.readableRec t && decide (t < P.types.size)) = true) (hrt : f.resultTypes = #[t]) (hvs : s.vars = [])
    (hW : DataW.Whole enc P f.params.toList s.vars false W args.toList ds gs before) (hb : Below W.heap.size W W')
    (h1 : (s.fn H (ds ++ gs)).results = [.lit (.bool true)]) (h2 : (s.fn H (ds ++ gs)).args = ds) (h3 : (s.fn H (ds ++ gs)).vars = []) :
    s.post enc P f false true false false W args (.bool true) W' := by
  have hW' := hW
  have hlt := hW.lt
  obtain ⟨p, q, hA, hV, rfl, hfz, hnd⟩ := hW
  refine ⟨ds, gs, _, [], p, [], hW', ?_, ?_, ?_, hb.frame _, fun h => by cases h⟩
  · rw [h1, hrt]
    exact trodAll_cons_mk (shut_bool ht true) trodAll_mk0
  · rw [h2]
    refine trodAll_below hl hb ?_ hA (fun x hx => hlt x (by simp [hx]))
    intro t htm
    have := List.all_eq_true.1 hr t htm
    simp only [Bool.and_eq_true, decide_eq_true_eq] at this
    exact this
  · rw [h3, hvs]
    exact rfl
end Go.Proofs.YtnkjnclpakfgnaaGreatDoor
