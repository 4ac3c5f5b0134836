/-
  What is in order is so in one way alone. No program is named.
-/
import Derived.Test.YtifcdfilglbdgaaSwo
namespace Go.Proofs.Ytifcdfilglbdgaa
theorem srt_unique {lt : Int → Int → Bool} {ok : Int → Prop} (h : SWO lt ok) : ∀ {C D : List Int}, (∀ x ∈ C, ok x) → C.Perm D → Srt lt C → Srt lt D → C = D
  | [], D, _, hp, _, _ => (List.Perm.eq_nil hp.symm).symm
  | x :: C, [], _, hp, _, _ => by have := hp.length_eq; simp at this
  | x :: C, y :: D, hok, hp, hc, hd => by
    have hc' := List.pairwise_cons.1 hc
    have hd' := List.pairwise_cons.1 hd
    have e : x = y := by
      have h1 : x ∈ y :: D := hp.mem_iff.1 List.mem_cons_self
      have h2 : y ∈ x :: C := hp.mem_iff.2 List.mem_cons_self
      rcases List.mem_cons.1 h1 with e | h1
      · exact e
      · rcases List.mem_cons.1 h2 with e | h2
        · exact e.symm
        · exact (h.bf_asymm (hok x List.mem_cons_self) (hok y (List.mem_cons_of_mem _ h2)) (hc'.1 y h2) (hd'.1 x h1)).elim
    subst e
    rw [srt_unique h (fun z hz => hok z (List.mem_cons_of_mem _ hz)) (List.Perm.cons_inv hp) hc'.2 hd'.2]
end Go.Proofs.Ytifcdfilglbdgaa
