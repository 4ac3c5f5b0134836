/-
  VALUES AND THEIR ORDER, plainly: a value's key; the keys' order is one. No program is named.
-/
import Derived.WalkKit
namespace Go.Proofs.Ytifcdfilglbdgaa

theorem bytesLess_irrefl : ∀ (x : List UInt8), Op.bytesLess x x = false
  | [] => rfl
  | a :: x => by
    unfold Op.bytesLess
    rw [bytesLess_irrefl x]
    simp [UInt8.lt_irrefl]
theorem bytesLess_total : ∀ {x y : List UInt8}, Op.bytesLess x y = false → Op.bytesLess y x = false → x = y
  | [], [], _, _ => rfl
  | [], _ :: _, h, _ => by simp [Op.bytesLess] at h
  | _ :: _, [], _, h => by simp [Op.bytesLess] at h
  | a :: x, b :: y, h1, h2 => by
    unfold Op.bytesLess at h1 h2
    simp only [Bool.or_eq_false_iff, decide_eq_false_iff_not, Bool.and_eq_false_iff, beq_eq_false_iff_ne] at h1 h2
    have hab : a = b := UInt8.toNat_inj.1 (by
      have := h1.1; have := h2.1
      simp only [UInt8.lt_iff_toNat_lt] at *
      omega)
    subst hab
    rcases h1.2 with h | h
    · exact absurd rfl h
    rcases h2.2 with h' | h'
    · exact absurd rfl h'
    rw [bytesLess_total h h']
theorem bytesLess_trans : ∀ {x y z : List UInt8}, Op.bytesLess x y = true → Op.bytesLess y z = true → Op.bytesLess x z = true
  | _, [], _, h, _ => by cases ‹List UInt8› <;> simp [Op.bytesLess] at h
  | _, _ :: _, [], _, h => by simp [Op.bytesLess] at h
  | [], _ :: _, _ :: _, _, _ => rfl
  | a :: x, b :: y, c :: z, h1, h2 => by
    unfold Op.bytesLess at h1 h2 ⊢
    simp only [Bool.or_eq_true, decide_eq_true_eq, Bool.and_eq_true, beq_iff_eq] at h1 h2 ⊢
    simp only [UInt8.lt_iff_toNat_lt] at *
    rcases h1 with h1 | ⟨rfl, h1⟩
    · rcases h2 with h2 | ⟨rfl, h2⟩
      · left; omega
      · left; exact h1
    · rcases h2 with h2 | ⟨rfl, h2⟩
      · left; exact h2
      · right; exact ⟨rfl, bytesLess_trans h1 h2⟩

/-- A value, plainly. -/
structure V where
  k : Int
  i : Int
  s : ByteArray
  b : Bool
def V.val (v : V) : Value := .agg #[.int .u8 v.k, .int .i64 v.i, .string v.s, .bool v.b]

def rankI (k : Int) : Int := if k = 3 then 1 else if k = 1 then 2 else if k = 2 then 3 else 0
def cmpI (x y : Int) : Int := if x < y then -1 else if y < x then 1 else 0
def cmpS (x y : ByteArray) : Int := if Op.bytesLess x.toList y.toList = true then -1 else if Op.bytesLess y.toList x.toList = true then 1 else 0
def bitI (b : Bool) : Int := if b then 1 else 0
def cmpV (a b : V) : Int :=
  if cmpI (rankI a.k) (rankI b.k) ≠ 0 then cmpI (rankI a.k) (rankI b.k)
  else if a.k = 1 then cmpI a.i b.i else if a.k = 2 then cmpS a.s b.s else if a.k = 3 then cmpI (bitI a.b) (bitI b.b) else 0
/-- What a value is, as Go has it. -/
def openV (v : V) : Value := if v.k = 1 then .iface 2 (.int .i64 v.i) else if v.k = 2 then .iface 9 (.string v.s) else if v.k = 3 then .iface 4 (.bool v.b) else .nilIface


/-- A value's key: its rank, its number, its text. -/
abbrev K := Int × Int × List UInt8
def keyV (v : V) : K := (rankI v.k, if v.k = 1 then v.i else if v.k = 3 then bitI v.b else 0, if v.k = 2 then v.s.toList else [])
def ltK (a b : K) : Bool := decide (a.1 < b.1) || (decide (a.1 = b.1) && (decide (a.2.1 < b.2.1) || (decide (a.2.1 = b.2.1) && Op.bytesLess a.2.2 b.2.2)))
theorem ltK_irrefl (a : K) : ltK a a = false := by simp [ltK, bytesLess_irrefl]
theorem ltK_total {a b : K} (h1 : ltK a b = false) (h2 : ltK b a = false) : a = b := by
  obtain ⟨a1, a2, a3⟩ := a
  obtain ⟨b1, b2, b3⟩ := b
  simp only [ltK, Bool.or_eq_false_iff, decide_eq_false_iff_not, Bool.and_eq_false_iff] at h1 h2
  have e1 : a1 = b1 := by omega
  subst e1
  rcases h1.2 with h | h
  · exact absurd rfl h
  rcases h2.2 with h' | h'
  · exact absurd rfl h'
  have e2 : a2 = b2 := by omega
  subst e2
  rcases h.2 with g | g
  · exact absurd rfl g
  rcases h'.2 with g' | g'
  · exact absurd rfl g'
  rw [bytesLess_total g g']
theorem ltK_trans {a b c : K} (h1 : ltK a b = true) (h2 : ltK b c = true) : ltK a c = true := by
  obtain ⟨a1, a2, a3⟩ := a
  obtain ⟨b1, b2, b3⟩ := b
  obtain ⟨c1, c2, c3⟩ := c
  simp only [ltK, Bool.or_eq_true, decide_eq_true_eq, Bool.and_eq_true] at h1 h2 ⊢
  rcases h1 with h1 | ⟨rfl, h1⟩
  · left; rcases h2 with h2 | ⟨rfl, h2⟩ <;> omega
  · rcases h2 with h2 | ⟨rfl, h2⟩
    · left; exact h2
    · right
      refine ⟨rfl, ?_⟩
      rcases h1 with h1 | ⟨rfl, h1⟩
      · left; rcases h2 with h2 | ⟨rfl, h2⟩ <;> omega
      · rcases h2 with h2 | ⟨rfl, h2⟩
        · left; exact h2
        · right; exact ⟨rfl, bytesLess_trans h1 h2⟩
theorem ltK_asymm {a b : K} (h : ltK a b = true) : ltK b a = false := by
  cases h2 : ltK b a with
  | false => rfl
  | true => have := ltK_trans h h2; rw [ltK_irrefl] at this; cases this

def ltV (a b : V) : Bool := ltK (keyV a) (keyV b)
def sameV (a b : V) : Bool := decide (keyV a = keyV b)
theorem cmpI_key (x y : Int) : cmpI x y = if x < y then -1 else if y < x then 1 else 0 := rfl
theorem cmpV_key (a b : V) : cmpV a b = if ltV a b = true then -1 else if ltV b a = true then 1 else 0 := by
  obtain ⟨ak, ai, as, ab⟩ := a
  obtain ⟨bk, bi, bs, bb⟩ := b
  unfold cmpV ltV ltK keyV
  simp only
  by_cases hr : rankI ak < rankI bk
  · have : cmpI (rankI ak) (rankI bk) = -1 := by unfold cmpI; rw [if_pos hr]
    rw [this, if_pos (by decide), if_pos (by simp [hr])]
  by_cases hr2 : rankI bk < rankI ak
  · have : cmpI (rankI ak) (rankI bk) = 1 := by unfold cmpI; rw [if_neg hr, if_pos hr2]
    have hn : ¬ rankI ak = rankI bk := by omega
    rw [this, if_pos (by decide), if_neg (by simp [hr, hn]), if_pos (by simp [hr2])]
  have he : rankI ak = rankI bk := by omega
  have h0 : cmpI (rankI ak) (rankI bk) = 0 := by unfold cmpI; rw [if_neg hr, if_neg hr2]
  rw [h0, if_neg (by decide), he]
  have hk : (ak = 1 ↔ bk = 1) ∧ (ak = 2 ↔ bk = 2) ∧ (ak = 3 ↔ bk = 3) := by
    unfold rankI at he
    (repeat' split at he) <;> omega
  by_cases h1 : ak = 1
  · have h2 := hk.1.1 h1
    subst h1 h2
    simp [cmpI, bytesLess_irrefl]
  by_cases h2 : ak = 2
  · have h3 := hk.2.1.1 h2
    subst h2 h3
    simp [cmpS]
  by_cases h3 : ak = 3
  · have h4 := hk.2.2.1 h3
    subst h3 h4
    simp [cmpI, bytesLess_irrefl]
  have g1 : ¬ bk = 1 := fun e => h1 (hk.1.2 e)
  have g2 : ¬ bk = 2 := fun e => h2 (hk.2.1.2 e)
  have g3 : ¬ bk = 3 := fun e => h3 (hk.2.2.2 e)
  simp [h1, h2, h3, g1, g2, g3, bytesLess_irrefl]
theorem ltV_iff (a b : V) : ltV a b = decide (cmpV a b < 0) := by
  rw [cmpV_key]
  cases h : ltV a b with
  | true => rw [if_pos rfl]; rfl
  | false =>
    rw [if_neg (by decide)]
    split <;> rfl
theorem sameV_iff (a b : V) : sameV a b = decide (cmpV a b = 0) := by
  rw [cmpV_key]
  unfold sameV ltV
  by_cases e : keyV a = keyV b
  · rw [e, ltK_irrefl]; simp
  · cases h : ltK (keyV a) (keyV b) with
    | true => simp [e]
    | false =>
      cases h2 : ltK (keyV b) (keyV a) with
      | true => simp [e]
      | false => exact absurd (ltK_total h h2) e
end Go.Proofs.Ytifcdfilglbdgaa
