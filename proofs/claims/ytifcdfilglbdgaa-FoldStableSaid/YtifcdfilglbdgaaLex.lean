/-
  THE ORDER OF KEYS IS ONE, plainly: of keys of one length, with any directions.
-/
import Derived.Test.YtifcdfilglbdgaaRow
import Derived.Test.YtifcdfilglbdgaaSwo
namespace Go.Proofs.Ytifcdfilglbdgaa

theorem lessR_irrefl : ∀ (a : List K) (d : List Bool), lessR a a d = false
  | [], d => lessR_nil_left _ _
  | x :: a, d => by
    show (if x = x then lessR a a d.tail else _) = false
    rw [if_pos rfl]; exact lessR_irrefl a _
theorem lessR_cons (x y : K) (a b : List K) (d : List Bool) : lessR (x :: a) (y :: b) d = if x = y then lessR a b d.tail else (ltK x y != d.headD false) := rfl
theorem ltK_ne {x y : K} (h : x ≠ y) : ltK y x = !ltK x y := by
  cases h1 : ltK x y with
  | true => exact ltK_asymm h1
  | false =>
    cases h2 : ltK y x with
    | true => rfl
    | false => exact absurd (ltK_total h1 h2) h
theorem lessR_total : ∀ {a b : List K} (d : List Bool), a.length = b.length → lessR a b d = false → lessR b a d = false → a = b
  | [], [], _, _, _, _ => rfl
  | [], _ :: _, _, h, _, _ => by simp at h
  | _ :: _, [], _, h, _, _ => by simp at h
  | x :: a, y :: b, d, h, h1, h2 => by
    rw [lessR_cons] at h1 h2
    by_cases e : x = y
    · subst e
      rw [if_pos rfl] at h1 h2
      rw [lessR_total d.tail (by simpa using h) h1 h2]
    · rw [if_neg e] at h1
      rw [if_neg (Ne.symm e), ltK_ne e] at h2
      cases h3 : ltK x y <;> cases h4 : d.headD false <;> rw [h3, h4] at h1 h2 <;> simp at h1 h2
theorem lessR_trans : ∀ {a b c : List K} (d : List Bool), a.length = b.length → b.length = c.length → lessR a b d = true → lessR b c d = true → lessR a c d = true
  | [], _, _, d, _, _, h, _ => by rw [lessR_nil_left] at h; cases h
  | _ :: _, [], _, d, h, _, _, _ => by simp at h
  | _ :: _, _ :: _, [], d, _, h, _, _ => by simp at h
  | x :: a, y :: b, z :: c, d, l1, l2, h1, h2 => by
    rw [lessR_cons] at h1 h2 ⊢
    by_cases e : x = y
    · subst e
      rw [if_pos rfl] at h1
      by_cases e2 : x = z
      · subst e2
        rw [if_pos rfl] at h2 ⊢
        exact lessR_trans d.tail (by simpa using l1) (by simpa using l2) h1 h2
      · rw [if_neg e2] at h2 ⊢
        exact h2
    · rw [if_neg e] at h1
      by_cases e2 : y = z
      · subst e2
        rw [if_neg e]; exact h1
      · rw [if_neg e2] at h2
        cases h0 : d.headD false with
        | false =>
          rw [h0] at h1 h2
          have k1 : ltK x y = true := by simpa using h1
          have k2 : ltK y z = true := by simpa using h2
          have k3 := ltK_trans k1 k2
          have e3 : x ≠ z := fun e => by subst e; rw [ltK_irrefl] at k3; cases k3
          rw [if_neg e3, k3]; rfl
        | true =>
          rw [h0] at h1 h2
          have k1 : ltK y x = true := by rw [ltK_ne e]; simpa using h1
          have k2 : ltK z y = true := by rw [ltK_ne e2]; simpa using h2
          have k3 := ltK_trans k2 k1
          have e3 : x ≠ z := fun e => by subst e; rw [ltK_irrefl] at k3; cases k3
          rw [if_neg e3, ltK_asymm k3]; rfl
theorem lessR_asymm {a b : List K} (d : List Bool) (h : a.length = b.length) (h1 : lessR a b d = true) : lessR b a d = false := by
  cases h2 : lessR b a d with
  | false => rfl
  | true => have := lessR_trans d h h.symm h1 h2; rw [lessR_irrefl] at this; cases this

/-- The order of rows by their numbers. -/
def ltN (R : List (List V)) (d : List Bool) (x y : Int) : Bool := lessR (keyR (R.getD x.toNat [])) (keyR (R.getD y.toNat [])) d
def okN (R : List (List V)) (x : Int) : Prop := 0 ≤ x ∧ x < R.length
theorem ltN_swo {R : List (List V)} {m : Nat} (hR : ∀ r ∈ R, r.length = m) (d : List Bool) : SWO (ltN R d) (okN R) := by
  have hl : ∀ x, okN R x → (keyR (R.getD x.toNat [])).length = m := fun x hx => by
    have h1 : x.toNat < R.length := by have := hx.1; have := hx.2; omega
    rw [List.getD_eq_getElem?_getD, List.getElem?_eq_getElem h1]
    show (List.map keyV R[x.toNat]).length = m
    rw [List.length_map]
    exact hR _ (List.getElem_mem h1)
  refine ⟨fun x _ => lessR_irrefl _ _, fun x y z hx hy hz h1 h2 => lessR_trans d ((hl x hx).trans (hl y hy).symm) ((hl y hy).trans (hl z hz).symm) h1 h2, fun x y z hx hy hz h => ?_⟩
  have exy := (hl x hx).trans (hl y hy).symm
  have eyz := (hl y hy).trans (hl z hz).symm
  unfold ltN at h ⊢
  cases h1 : lessR (keyR (R.getD x.toNat [])) (keyR (R.getD y.toNat [])) d with
  | true => exact .inl rfl
  | false =>
    right
    cases h2 : lessR (keyR (R.getD y.toNat [])) (keyR (R.getD x.toNat [])) d with
    | false => rw [lessR_total d exy h1 h2] at h; exact h
    | true => exact lessR_trans d exy.symm (exy.trans eyz) h2 h
end Go.Proofs.Ytifcdfilglbdgaa
