/- SO MUCH FITS ALWAYS FITS: whatever rows, rounds and mode come in, TopSteady returns true and leaves all as it was: the row and the tied card. No conditions. -/
import Derived.Test.YtnkjnclpakfgnaaGreatDoorZz
import Derived.Test.YtnkjnclpakfgnaaGreatDoorZx
import Derived.Test.YtnkjnclpakfgnaaGreatDoorZf
import Derived.WalkKit
import Derived.LaidMore
import Derived.Lay
namespace Go.Proofs.YtnkjnclpakfgnaaGreatDoor.topSteady
open Go.ChangeShapes Go.WideShapes Go.ChangeAt Go.RowKit

theorem own : ownKnob Tryz.prog.godebug = none := by kernel_rfl
set_option maxHeartbeats 4000000 in
set_option maxRecDepth 100000 in
theorem lifted (os : Os) (started : os.Started) (H : Type) (enc : TypeId × Value → H) :
    ReturnsInHanded {} Tryz.checked os 4 .any (fun w args => (Rows.topSteadySpec.pre enc Tryz.prog Tryz.f4 Rows.topSteadyRow.domain false w args ∧ laidMetH Tryz.prog Rows.topSteadyRow.laid w) ∧ sizedMet enc Tryz.prog Tryz.f4 (OpenSpec.ofChange Rows.topSteadySpec) false w args)
      (Rows.topSteadySpec.post enc Tryz.prog Tryz.f4 false true false false) := by
  refine returnsInHanded_of_calls (C := Tryz.checked) own started (by kernel_rfl)
    (ChangeSpec.witness_shaped (enc := enc) (C := Tryz.checked) (os := os) (X := fun w _ => laidMetH Tryz.prog Rows.topSteadyRow.laid w) false (World.laidAll Tryz.prog os Rows.topSteadyRow.laid) #[.int .u8 0, .int .u8 0, .bool false] 8 (World.laidAll_os _ _ _)
      (World.shaped_of_ZipB (by kernel_rfl) (by kernel_rfl)) (by kernel_rfl) (by kernel_rfl) (by kernel_rfl)
      (by rw [MakeChecks.laidMetH_plain _ _ _ (by kernel_rfl)]; exact laidMet_laidAll _ (by kernel_rfl) (by kernel_rfl))) ?_
  intro w tape i _ hsh _ hok hpre _
  obtain ⟨_, _, _, fn', hfn', _, _, _, _, hval0⟩ := hok
  have e : fn' = Tryz.f4 := Option.some.inj (hfn'.symm.trans Tryz.func4)
  subst e
  obtain ⟨⟨⟨ds, gs, before, hw, hc⟩, hx⟩, hz⟩ := hpre
  have hW' := DataW.Whole.of_heap (w' := w.forCall tape i) (by rfl) hw
  have hL : laidMetH Tryz.prog Rows.topSteadyRow.laid (w.forCall tape i) := hx.of_heap (by rfl)
  obtain ⟨hU, h3⟩ := X.laid_world hL hsh
  obtain ⟨W, hWW⟩ : ∃ W, W = w.forCall tape i := ⟨_, rfl⟩
  rw [← hWW] at hW' hU h3 hval0 ⊢
  have hval : ∀ (j : Nat) t v, Tryz.f4.params[j]? = some t → i.args[j]? = some v → Value.okWide Tryz.prog W .any w.heap.size t v := hval0
  obtain ⟨args, hargs⟩ : ∃ args, args = i.args := ⟨_, rfl⟩
  rw [← hargs] at hW' hval ⊢
  have hW2 := hW'
  obtain ⟨p, q, hA0, hV, rfl, hfz, hnd⟩ := hW'
  have hA : DataW.TrodAll enc Tryz.prog W 0 (fun _ => true) true Tryz.f4.params.toList args.toList ds p := hA0
  rw [Tryz.params4] at hA hval
  obtain ⟨v0, vs0, d0, ds0, p0, q0, ha0, rfl, rfl, h0, r0⟩ := trodAll_cons hA
  obtain ⟨v1, vs1, d1, ds1, p1, q1, rfl, rfl, rfl, h1, r1⟩ := trodAll_cons r0
  obtain ⟨v2, vs2, d2, ds2, p2, q2, rfl, rfl, rfl, h2, r2⟩ := trodAll_cons r1
  obtain ⟨rfl, rfl, rfl⟩ := trodAll_nil r2
  obtain rfl : args = #[v0, v1, v2] := by cases args; simp_all
  obtain ⟨rfl, rfl⟩ := trodVars_none hV
  obtain ⟨x0, rfl, rfl, rfl, wx0⟩ := open_int Tryz.underlying5 (hval 0 5 v0 rfl rfl) h0
  obtain ⟨x1, rfl, rfl, rfl, wx1⟩ := open_int Tryz.underlying5 (hval 1 5 v1 rfl rfl) h1
  obtain ⟨b, rfl, rfl, rfl⟩ := open_bool Tryz.underlying4 (hval 2 4 v2 rfl rfl) h2
  refine (X.top_at (all := b) (X.u8_lt wx0) (X.u8_lt wx1) hU h3).mono fun e W' ⟨he, hg⟩ => ?_
  subst he
  rw [hWW] at hW2 hg ⊢
  exact ChangeSpec.post_blind (law_post k2 Tryz.underlying4 (by kernel_rfl) rfl rfl hW2 hg rfl rfl rfl)

theorem over : Rows.TopSteadySaid :=
  OpenClaim.holds_of_wide 4 Tryz.f4 rfl rfl rfl rfl rfl rfl rfl ⟨rfl, rfl, rfl, rfl, rfl⟩ rfl rfl rfl rfl rfl (by kernel_rfl) Tryz.func4 facts
    (of_decide_eq_true (by kernel_rfl)) (by unfold Func.isWrapper; first | (rw [if_pos (by decide +kernel)]; kernel_rfl) | (rw [if_neg (by decide +kernel)]; exact ⟨rfl, rfl⟩))
    (fun os started H enc _ => lifted os started H enc)
theorem proved : Rows.TopSteadyCardSaid :=
  Claim7.holds_tied_plain_at .later [] [.data, .widerDeep, .pinned, .pinned] true (true, "e7a091989406db25b270c03f74c52c767b701b592caaf9a1c5f4471d88b6c6a2") true over (fun _ h => by cases h) (by kernel_rfl) (fun _ h => by cases h) topSteady_row_tie rfl ⟨rfl, rfl⟩ (by kernel_rfl) rfl
    (fun f fn hf hfn => by
      obtain rfl : f = 4 := Option.some.inj ((show Tryz.prog.funcNamed Rows.topSteadyRow.func = some 4 by kernel_rfl).symm.trans hf) |>.symm
      obtain rfl : fn = Tryz.f4 := (Option.some.inj (Tryz.func4.symm.trans hfn)).symm
      exact ⟨by kernel_rfl, fun j t ht => by
        rw [Tryz.params4] at ht
        have hm : t ∈ [5, 5, 4] := by simpa using Array.mem_of_getElem? ht
        have hall : ([5, 5, 4].all fun u => !Tryz.prog.wantsStandIn u) = true := by kernel_rfl
        exact (show Tryz.prog.wantsStandIn t = false by simpa using List.all_eq_true.1 hall t hm)⟩)
    (by
      unfold OpenClaim.goesBy Program.goesAt
      exact (show false = (Tryz.prog.goesFrom Rows.topSteadyRow.func || false) from by rw [← goes_no]; rfl))
#print axioms proved
end Go.Proofs.YtnkjnclpakfgnaaGreatDoor.topSteady
