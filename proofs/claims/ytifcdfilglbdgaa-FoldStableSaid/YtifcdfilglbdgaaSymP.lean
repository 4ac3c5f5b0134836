/-
  What a symmetric search between two sorted parts comes to. No program is named.
-/
import Derived.Test.YtifcdfilglbdgaaSym
namespace Go.Proofs.Ytifcdfilglbdgaa

/-- What stands ahead of the two cuts is ahead of what stands behind them. -/
theorem SWO.cross {lt : Int → Int → Bool} {ok : Int → Prop} (h : SWO lt ok) {A1 A2 B1 B2 : List Int} (hok : ∀ x ∈ (A1 ++ A2) ++ (B1 ++ B2), ok x) (hA : Srt lt (A1 ++ A2)) (hB : Srt lt (B1 ++ B2))
    (h1 : A1 = [] ∨ B2 = [] ∨ ∃ L' l z M', A1 = L' ++ [l] ∧ B2 = z :: M' ∧ bf lt l z) (h2 : B1 = [] ∨ A2 = [] ∨ ∃ L' l z M', B1 = L' ++ [l] ∧ A2 = z :: M' ∧ bf lt l z) :
    ∀ x ∈ A1 ++ B1, ∀ y ∈ A2 ++ B2, bf lt x y := by
  have hA' := List.pairwise_append.1 hA
  have hB' := List.pairwise_append.1 hB
  have k1 := List.pairwise_append.1 (h.join (fun x hx => hok x (by simp only [List.mem_append] at hx ⊢; rcases hx with hx | hx <;> simp [hx])) hA'.1 hB'.2.1 h1)
  have k2 := List.pairwise_append.1 (h.join (fun x hx => hok x (by simp only [List.mem_append] at hx ⊢; rcases hx with hx | hx <;> simp [hx])) hB'.1 hA'.2.1 h2)
  intro x hx y hy
  rcases List.mem_append.1 hx with hx | hx <;> rcases List.mem_append.1 hy with hy | hy
  · exact hA'.2.2 x hx y hy
  · exact k1.2.2 x hx y hy
  · exact k2.2.2 x hx y hy
  · exact hB'.2.2 x hx y hy

theorem last_split {L L1 L2 : List Int} {i : Nat} {x : Int} (e : L = L1 ++ L2) (hl : L1.length = i) (hi : 0 < i) (hx : L[i - 1]? = some x) : ∃ L', L1 = L' ++ [x] := by
  rcases List.eq_nil_or_concat L1 with h0 | ⟨L', l, h0⟩
  · subst h0; simp at hl; omega
  · rw [List.concat_eq_append] at h0
    subst h0
    have hll : L'.length + 1 = i := by simpa using hl
    rw [e, List.append_assoc, List.getElem?_append_right (by omega), show i - 1 - L'.length = 0 from by omega] at hx
    simp at hx
    exact ⟨L', by rw [hx]⟩
theorem head_split {L L1 L2 : List Int} {i : Nat} {x : Int} (e : L = L1 ++ L2) (hl : L1.length = i) (hx : L[i]? = some x) : ∃ M, L2 = x :: M := by
  rw [e, List.getElem?_append_right (by omega), show i - L1.length = 0 from by omega] at hx
  cases L2 with
  | nil => simp at hx
  | cons z M => simp at hx; exact ⟨M, by rw [hx]⟩

/-- Two sorted parts, cut where the search ends. -/
theorem SWO.cuts {lt : Int → Int → Bool} {ok : Int → Prop} (h : SWO lt ok) {A B A1 A2 B1 B2 : List Int} {i k : Nat} (hok : ∀ x ∈ A ++ B, ok x) (hA : Srt lt A) (hB : Srt lt B) (hlate : ∀ x ∈ A, ∀ y ∈ B, x < y)
    (eA : A = A1 ++ A2) (eB : B = B1 ++ B2) (hi : A1.length = i) (hk : B1.length = k)
    (h1 : i = 0 ∨ k = B.length ∨ ∃ x y, 0 < i ∧ A[i - 1]? = some x ∧ B[k]? = some y ∧ lt y x = false) (h2 : k = 0 ∨ i = A.length ∨ ∃ x y, 0 < k ∧ A[i]? = some x ∧ B[k - 1]? = some y ∧ lt y x = true) :
    ∀ x ∈ A1 ++ B1, ∀ y ∈ A2 ++ B2, bf lt x y := by
  have hAl := congrArg List.length eA
  have hBl := congrArg List.length eB
  simp only [List.length_append] at hAl hBl
  refine h.cross (by rw [← eA, ← eB]; exact hok) (by rw [← eA]; exact hA) (by rw [← eB]; exact hB) ?_ ?_
  · rcases h1 with e | e | ⟨x, y, hp, hx, hy, e⟩
    · exact .inl (List.eq_nil_of_length_eq_zero (by omega))
    · exact .inr (.inl (List.eq_nil_of_length_eq_zero (by omega)))
    · obtain ⟨L', e1⟩ := last_split eA hi hp hx
      obtain ⟨M, e2⟩ := head_split eB hk hy
      exact .inr (.inr ⟨L', x, y, M, e1, e2, .inr ⟨e, hlate x (List.mem_of_getElem? hx) y (List.mem_of_getElem? hy)⟩⟩)
  · rcases h2 with e | e | ⟨x, y, hp, hx, hy, e⟩
    · exact .inl (List.eq_nil_of_length_eq_zero (by omega))
    · exact .inr (.inl (List.eq_nil_of_length_eq_zero (by omega)))
    · obtain ⟨L', e1⟩ := last_split eB hk hp hy
      obtain ⟨M, e2⟩ := head_split eA hi hx
      exact .inr (.inr ⟨L', y, x, M, e1, e2, .inl e⟩)

/-- Two parts, each put in order, side by side. -/
theorem srt_halves {lt : Int → Int → Bool} {C1 C2 D1 D2 : List Int} (p1 : C1.Perm D1) (p2 : C2.Perm D2) (s1 : Srt lt C1) (s2 : Srt lt C2) (hx : ∀ x ∈ D1, ∀ y ∈ D2, bf lt x y) : Srt lt (C1 ++ C2) :=
  List.pairwise_append.2 ⟨s1, s2, fun x hx1 y hy => hx x (p1.mem_iff.1 hx1) y (p2.mem_iff.1 hy)⟩
theorem perm_halves {A1 A2 B1 B2 C1 C2 : List Int} (p1 : C1.Perm (A1 ++ B1)) (p2 : C2.Perm (A2 ++ B2)) : (C1 ++ C2).Perm ((A1 ++ A2) ++ (B1 ++ B2)) := by
  refine (p1.append p2).trans ?_
  rw [List.append_assoc, List.append_assoc]
  refine List.Perm.append_left A1 ?_
  rw [← List.append_assoc, ← List.append_assoc]
  exact List.Perm.append_right B2 List.perm_append_comm
end Go.Proofs.Ytifcdfilglbdgaa
