/-
  WHAT IS DEAD STAYS SO, plainly: logs, snapshots of those that run, versions. No program is named but what its parts are told to answer. No condition.
-/
import Derived.Test.YtdohkjpapmkhjaaTups
namespace Go.Proofs.Ytdohkjpapmkhjaa
open Go.RowKit

/-- Dead, below all that look. -/
def DeadP (L : List Nat) (low : Int → Prop) (t : Int × Int) : Prop := stt 1 L t.1 = 3 ∨ (t.2 ≠ 0 ∧ stt 1 L t.2 = 2 ∧ low t.2)

theorem stt_lt {f : Int} {L : List Nat} {x : Int} (h : stt f L x ≠ 0) : f ≤ x ∧ x < f + L.length := by
  constructor
  · by_cases hx : x < f
    · exact absurd (stt_lo hx) h
    · omega
  · by_cases hx : f + L.length ≤ x
    · exact absurd (stt_hi hx) h
    · omega

theorem foldl_least (b : Int) : ∀ (r : List Int) (x : Int), b < r.foldl (fun a y => if y < a then y else a) x ↔ b < x ∧ ∀ y ∈ r, b < y
  | [], x => by simp
  | y :: r, x => by
    rw [List.foldl_cons, foldl_least b r]
    simp only [List.mem_cons, forall_eq_or_imp]
    split <;> constructor
    · rintro ⟨h1, h2⟩; exact ⟨by omega, h1, h2⟩
    · rintro ⟨h1, h2, h3⟩; exact ⟨h2, h3⟩
    · rintro ⟨h1, h2⟩; exact ⟨h1, by omega, h2⟩
    · rintro ⟨h1, h2, h3⟩; exact ⟨h1, h3⟩
theorem lt_least (b nx : Int) (l : List Int) : b < least nx l ↔ (l = [] ∧ b < nx) ∨ (l ≠ [] ∧ ∀ y ∈ l, b < y) := by
  cases l with
  | nil => simp [least]
  | cons x r =>
    show b < r.foldl _ x ↔ _
    rw [foldl_least]
    simp
theorem lt_least2 (b nx : Int) : ∀ l : List Int, b < least2 nx l ↔ b < nx ∧ ∀ y ∈ l, b < y := by
  intro l
  unfold least2
  induction l generalizing nx with
  | nil => simp
  | cons y r ih =>
    rw [List.foldl_cons, ih]
    simp only [List.mem_cons, forall_eq_or_imp, Int.min_def]
    split <;> constructor
    · rintro ⟨h1, h2⟩; exact ⟨by omega, by omega, h2⟩
    · rintro ⟨h1, h2, h3⟩; exact ⟨h1, h3⟩
    · rintro ⟨h1, h2⟩; exact ⟨by omega, by omega, h2⟩
    · rintro ⟨h1, h2, h3⟩; exact ⟨h2, h3⟩

/-- What the program tells below the horizon of these snapshots is what is so. -/
theorem dead_horizon {L : List Nat} {xs : List Int} {low : Int → Prop} (hlow : ∀ b, low b ↔ ∀ y ∈ xs, b < y) (a b : Int) :
    deadB 1 L a b (least (1 + L.length) xs) = true ↔ DeadP L low (a, b) := by
  unfold deadB DeadP
  simp only [Bool.or_eq_true, Bool.and_eq_true, beq_iff_eq, bne_iff_ne, decide_eq_true_eq]
  constructor
  · rintro (h | ⟨⟨h1, h2⟩, h3⟩)
    · exact .inl h
    · refine .inr ⟨h1, h2, (hlow b).2 ?_⟩
      rcases (lt_least _ _ _).1 h3 with ⟨rfl, _⟩ | ⟨_, h⟩
      · intro y hy; cases hy
      · exact h
  · rintro (h | ⟨h1, h2, h3⟩)
    · exact .inl h
    · refine .inr ⟨⟨h1, h2⟩, (lt_least _ _ _).2 ?_⟩
      by_cases h : xs = []
      · exact .inl ⟨h, (stt_lt (by omega)).2⟩
      · exact .inr ⟨h, (hlow b).1 h3⟩

theorem DeadP.ended {L : List Nat} {low low' : Int → Prop} {t : Int × Int} (h : DeadP L low t) (x : Int) (q : Nat) (hl : ∀ b, low b → low' b) : DeadP (ended 1 L x q) low' t := by
  rcases h with h | ⟨h1, h2, h3⟩
  · refine .inl ?_
    rw [stt_ended, if_neg]
    · exact h
    · rintro ⟨rfl, h4⟩; omega
  · refine .inr ⟨h1, ?_, hl _ h3⟩
    rw [stt_ended, if_neg]
    · exact h2
    · rintro ⟨rfl, h4⟩; omega
theorem DeadP.begin {L : List Nat} {low low' : Int → Prop} {t : Int × Int} (h : DeadP L low t) (hl : ∀ b, stt 1 L b = 2 → low b → low' b) : DeadP (L ++ [1]) low' t := by
  rcases h with h | ⟨h1, h2, h3⟩
  · refine .inl ?_
    rw [stt_snoc, if_neg]
    · exact h
    · have := (stt_lt (f := 1) (L := L) (x := t.1) (by omega)).2; omega
  · refine .inr ⟨h1, ?_, hl _ h2 h3⟩
    rw [stt_snoc, if_neg]
    · exact h2
    · have := (stt_lt (f := 1) (L := L) (x := t.2) (by omega)).2; omega

/-- Those that run, each with its snapshot. -/
structure Lives (L : List Nat) (lv : Int → Option (Snp × Value)) (D : List (Int × Int)) : Prop where
  run : ∀ y, (lv y).isSome = true ↔ stt 1 L y = 1
  low : ∀ y z, lv y = some z → z.1.xmin ≤ y + 1
  dead : ∀ t ∈ D, DeadP L (fun b => ∀ y z, lv y = some z → b < z.1.xmin) t

section
variable {L : List Nat} {lv : Int → Option (Snp × Value)} {D : List (Int × Int)}
theorem Lives.start : Lives [] (fun _ => none) [] := ⟨fun y => by simp [stt], (fun y z h => by cases h), (fun t h => by cases h)⟩
theorem Lives.ended (h : Lives L lv D) (x : Int) {q : Nat} (hq : q ≠ 1) : Lives (Ytdohkjpapmkhjaa.ended 1 L x q) (fun y => if y = x then none else lv y) D := by
  have hlv : ∀ y z, (if y = x then none else lv y) = some z → lv y = some z := fun y z e => by
    split at e
    · cases e
    · exact e
  refine ⟨fun y => ?_, fun y z e => h.low y z (hlv y z e), fun t ht => (h.dead t ht).ended x q (fun b hb y z e => hb y z (hlv y z e))⟩
  rw [stt_ended]
  by_cases e : y = x
  · subst e
    by_cases e2 : stt 1 L y = 1 <;> simp [e2, hq]
  · simp only [e, false_and, if_false]
    exact h.run y
theorem Lives.begin (h : Lives L lv D) (rv : Value) : Lives (L ++ [1]) (fun y => if y = 1 + (L.length : Int) then some (take 1 (L ++ [1]) (1 + L.length), rv) else lv y) D := by
  have hnew : ∀ b, stt 1 L b = 2 → (∀ y z, lv y = some z → b < z.1.xmin) → b < (take 1 (L ++ [1]) (1 + L.length)).xmin := fun b hb hl => by
    show b < least2 _ _
    rw [lt_least2]
    have := (stt_lt (f := 1) (L := L) (x := b) (by omega)).2
    refine ⟨by simp; omega, fun y hy => ?_⟩
    obtain ⟨h1, h2⟩ := List.mem_filter.1 hy
    rw [mem_running, stt_snoc, if_neg (by simpa using h2)] at h1
    cases hz : lv y with
    | none =>
      have := (h.run y).2 h1
      rw [hz] at this; cases this
    | some z =>
      have h3 := hl y z hz
      have h4 := h.low y z hz
      have h5 : b ≠ y := fun e => by rw [e] at hb; omega
      omega
  refine ⟨fun y => ?_, fun y z e => ?_, fun t ht => (h.dead t ht).begin (fun b hb hl y z e => ?_)⟩
  · rw [stt_snoc]
    by_cases e : y = 1 + (L.length : Int)
    · simp [e]
    · simp only [if_neg e]; exact h.run y
  · split at e
    · rename_i e2
      obtain rfl := Option.some.inj e
      show least2 _ _ ≤ _
      have h0 := lt_least2 (y + 1) (1 + ((L ++ [1]).length : Int)) ((running 1 (L ++ [1])).filter (· != (1 + (L.length : Int))))
      by_cases h1 : y + 1 < least2 (1 + ((L ++ [1]).length : Int)) ((running 1 (L ++ [1])).filter (· != (1 + (L.length : Int))))
      · have := (h0.1 h1).1
        simp at this; omega
      · omega
    · exact h.low y z e
  · split at e
    · obtain rfl := Option.some.inj e
      exact hnew b hb hl
    · exact hl y z e
theorem Lives.snoc (h : Lives L lv D) {t : Int × Int} (ht : DeadP L (fun b => ∀ y z, lv y = some z → b < z.1.xmin) t) : Lives L lv (D ++ [t]) :=
  ⟨h.run, h.low, fun u hu => by
    rcases List.mem_append.1 hu with hu | hu
    · exact h.dead u hu
    · obtain rfl := List.mem_singleton.1 hu; exact ht⟩

/-- Those below n, in order. -/
def allTo (lv : Int → Option (Snp × Value)) (n : Nat) : List (Snp × Value) := (List.range n).filterMap fun (j : Nat) => lv (j : Int)
theorem allTo_succ (lv : Int → Option (Snp × Value)) (n : Nat) : allTo lv (n + 1) = allTo lv n ++ (match lv (n : Int) with | none => [] | some z => [z]) := by
  unfold allTo
  rw [List.range_succ, List.filterMap_append]
  congr 1
  cases h : lv (n : Int) <;> simp [h]
theorem allTo_le (lv : Int → Option (Snp × Value)) (n : Nat) : (allTo lv n).length ≤ n := by
  unfold allTo
  exact Nat.le_trans (List.length_filterMap_le _ _) (by simp)
theorem mem_allTo (lv : Int → Option (Snp × Value)) (n : Nat) (z : Snp × Value) : z ∈ allTo lv n ↔ ∃ j : Nat, j < n ∧ lv (j : Int) = some z := by
  unfold allTo
  rw [List.mem_filterMap]
  simp
theorem Lives.horizon (h : Lives L lv D) (hL : L.length < 60) (a b : Int) :
    deadB 1 L a b (least (1 + L.length) ((allTo lv 60).map (·.1.xmin))) = true ↔ DeadP L (fun b => ∀ y z, lv y = some z → b < z.1.xmin) (a, b) := by
  refine dead_horizon (fun b => ?_) a b
  constructor
  · intro h1 y hy
    obtain ⟨z, hz, rfl⟩ := List.mem_map.1 hy
    obtain ⟨j, _, hj⟩ := (mem_allTo _ _ _).1 hz
    exact h1 _ _ hj
  · intro h1 y z hz
    have h2 := (h.run y).1 (by rw [hz]; rfl)
    have h3 := stt_lt (f := 1) (L := L) (x := y) (by omega)
    exact h1 _ (List.mem_map.2 ⟨z, (mem_allTo _ _ _).2 ⟨y.toNat, by omega, by rw [Int.toNat_of_nonneg (by omega)]; exact hz⟩, rfl⟩)
end
end Go.Proofs.Ytdohkjpapmkhjaa
