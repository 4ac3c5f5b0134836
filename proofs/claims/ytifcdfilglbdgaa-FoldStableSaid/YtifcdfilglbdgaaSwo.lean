/-
  A STRICT WEAK ORDER, AND THE STRICT TOTAL ORDER OF NUMBERED THINGS BY IT. No program is named.
-/
import Derived.Test.YtifcdfilglbdgaaBase
namespace Go.Proofs.Ytifcdfilglbdgaa

structure SWO (lt : Int → Int → Bool) (ok : Int → Prop) : Prop where
  irrefl : ∀ x, ok x → lt x x = false
  trans : ∀ x y z, ok x → ok y → ok z → lt x y = true → lt y z = true → lt x z = true
  either : ∀ x y z, ok x → ok y → ok z → lt x z = true → lt x y = true ∨ lt y z = true
/-- Ahead, or alike and of a lesser number. -/
def bf (lt : Int → Int → Bool) (x y : Int) : Prop := lt x y = true ∨ (lt y x = false ∧ x < y)
section
variable {lt : Int → Int → Bool} {ok : Int → Prop} {x y z : Int}
theorem SWO.asymm (h : SWO lt ok) (hx : ok x) (hy : ok y) (e : lt x y = true) : lt y x = false := by
  cases e2 : lt y x with
  | false => rfl
  | true => have := h.trans x y x hx hy hx e e2; rw [h.irrefl x hx] at this; cases this
theorem SWO.bf_trans (h : SWO lt ok) (hx : ok x) (hy : ok y) (hz : ok z) (h1 : bf lt x y) (h2 : bf lt y z) : bf lt x z := by
  rcases h1 with h1 | ⟨h1, h1'⟩
  · rcases h2 with h2 | ⟨h2, h2'⟩
    · exact .inl (h.trans x y z hx hy hz h1 h2)
    · rcases h.either x z y hx hz hy h1 with e | e
      · exact .inl e
      · rw [h2] at e; cases e
  · rcases h2 with h2 | ⟨h2, h2'⟩
    · rcases h.either y x z hy hx hz h2 with e | e
      · rw [h1] at e; cases e
      · exact .inl e
    · refine .inr ⟨?_, by omega⟩
      cases e : lt z x with
      | false => rfl
      | true =>
        rcases h.either z y x hz hy hx e with e | e
        · rw [h2] at e; cases e
        · rw [h1] at e; cases e
theorem bf_total (lt : Int → Int → Bool) (x y : Int) (h : x ≠ y) : bf lt x y ∨ bf lt y x := by
  unfold bf
  cases h1 : lt x y with
  | true => exact .inl (.inl rfl)
  | false =>
    cases h2 : lt y x with
    | true => exact .inr (.inl rfl)
    | false =>
      by_cases e : x < y
      · exact .inl (.inr ⟨rfl, e⟩)
      · exact .inr (.inr ⟨rfl, by omega⟩)
/-- The later one is ahead just if it is by the order. -/
theorem bf_late (h : y < x) : bf lt x y ↔ lt x y = true := by
  unfold bf
  constructor
  · rintro (e | ⟨_, e⟩)
    · exact e
    · omega
  · exact .inl
theorem SWO.bf_early (h : SWO lt ok) (hx : ok x) (hy : ok y) (hlt : x < y) : bf lt x y ↔ lt y x = false := by
  unfold bf
  constructor
  · rintro (e | ⟨e, _⟩)
    · exact h.asymm hx hy e
    · exact e
  · exact fun e => .inr ⟨e, hlt⟩
theorem SWO.bf_asymm (h : SWO lt ok) (hx : ok x) (hy : ok y) (h1 : bf lt x y) (h2 : bf lt y x) : False := by
  rcases h1 with h1 | ⟨h1, h1'⟩
  · rcases h2 with h2 | ⟨h2, h2'⟩
    · rw [h.asymm hx hy h1] at h2; cases h2
    · rw [h2] at h1; cases h1
  · rcases h2 with h2 | ⟨h2, h2'⟩
    · rw [h1] at h2; cases h2
    · omega

/-- Sorted. -/
abbrev Srt (lt : Int → Int → Bool) (l : List Int) : Prop := l.Pairwise (bf lt)
/-- Put in at its place. -/
theorem SWO.insert (h : SWO lt ok) {L M : List Int} {e : Int} (hok : ∀ x ∈ L ++ M, ok x) (he : ok e) (hs : Srt lt (L ++ M)) (hlate : ∀ x ∈ L ++ M, x < e) (hM : ∀ m ∈ M, lt e m = true)
    (hL : L = [] ∨ ∃ L' l, L = L' ++ [l] ∧ lt e l = false) : Srt lt (L ++ e :: M) := by
  unfold Srt at hs ⊢
  rw [List.pairwise_append] at hs ⊢
  obtain ⟨h1, h2, h3⟩ := hs
  have hle : ∀ x ∈ L, bf lt x e := by
    rcases hL with rfl | ⟨L', l, rfl, hl⟩
    · intro x hx; cases hx
    · have hl' : bf lt l e := (h.bf_early (hok l (by simp)) he (hlate l (by simp))).2 hl
      intro x hx
      rcases List.mem_append.1 hx with hx | hx
      · exact h.bf_trans (hok x (by simp [hx])) (hok l (by simp)) he ((List.pairwise_append.1 h1).2.2 x hx l (by simp)) hl'
      · obtain rfl := List.mem_singleton.1 hx
        exact hl'
  refine ⟨h1, List.pairwise_cons.2 ⟨fun m hm => .inl (hM m hm), h2⟩, fun x hx y hy => ?_⟩
  rcases List.mem_cons.1 hy with rfl | hy
  · exact hle x hx
  · exact h3 x hx y hy
end
end Go.Proofs.Ytifcdfilglbdgaa
