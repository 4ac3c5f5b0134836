/-
  Sorted by one key, then by another one: sorted by both. No program is named.
-/
import Derived.Test.YtifcdfilglbdgaaUniq
import Derived.Test.YtifcdfilglbdgaaFew2
import Derived.Test.YtifcdfilglbdgaaSort
namespace Go.Proofs.Ytifcdfilglbdgaa

theorem lessR1 (a b : K) : lessR [a] [b] [] = ltK a b := by
  rw [lessR_cons]
  by_cases h : a = b
  · subst h; rw [if_pos rfl, lessR_nil_left, ltK_irrefl]
  · rw [if_neg h]; simp
theorem lessR2 (a b c d : K) : lessR [a, b] [c, d] [] = if a = c then ltK b d else ltK a c := by
  rw [lessR_cons]
  by_cases h : a = c
  · subst h; rw [if_pos rfl, if_pos rfl]; exact lessR1 b d
  · rw [if_neg h, if_neg h]; simp

def colV (R : List (List V)) (c : Nat) (i : Int) : V := (R.getD i.toNat []).getD c V0
def colR (R : List (List V)) (c : Nat) (l : List Int) : List (List V) := l.map fun i => [colV R c i]
def bothR (R : List (List V)) : List (List V) := R.map fun r => [r.getD 1 V0, r.getD 0 V0]
def colK (R : List (List V)) (c : Nat) (i : Int) : K := keyV (colV R c i)
theorem colR_len (R : List (List V)) (c : Nat) (l : List Int) : (colR R c l).length = l.length := by simp [colR]
theorem colR_all (R : List (List V)) (c : Nat) (l : List Int) : ∀ r ∈ colR R c l, r.length = 1 := fun r hr => by
  obtain ⟨i, _, rfl⟩ := List.mem_map.1 hr; rfl
theorem bothR_len (R : List (List V)) : (bothR R).length = R.length := by simp [bothR]
theorem bothR_all (R : List (List V)) : ∀ r ∈ bothR R, r.length = 2 := fun r hr => by
  obtain ⟨i, _, rfl⟩ := List.mem_map.1 hr; rfl
theorem ltN_col {R : List (List V)} {c : Nat} {l : List Int} {x y : Int} (hx : x.toNat < l.length) (hy : y.toNat < l.length) : ltN (colR R c l) [] x y = ltK (colK R c (l.getD x.toNat 0)) (colK R c (l.getD y.toNat 0)) := by
  unfold ltN
  have e : ∀ z : Int, z.toNat < l.length → keyR ((colR R c l).getD z.toNat []) = [colK R c (l.getD z.toNat 0)] := fun z hz => by
    simp [colR, keyR, colK, List.getD_eq_getElem?_getD, hz]
  rw [e x hx, e y hy, lessR1]
theorem ltN_both {R : List (List V)} {x y : Int} (hx : x.toNat < R.length) (hy : y.toNat < R.length) : ltN (bothR R) [] x y = if colK R 1 x = colK R 1 y then ltK (colK R 0 x) (colK R 0 y) else ltK (colK R 1 x) (colK R 1 y) := by
  unfold ltN
  have e : ∀ z : Int, z.toNat < R.length → keyR ((bothR R).getD z.toNat []) = [colK R 1 z, colK R 0 z] := fun z hz => by
    simp [bothR, keyR, colK, colV, List.getD_eq_getElem?_getD, hz]
  rw [e x hx, e y hy, lessR2]
theorem idxs_getD {n : Nat} {x : Int} (h0 : 0 ≤ x) (h : x < n) : (idxs n).getD x.toNat 0 = x := by
  have h1 : x.toNat < n := by omega
  simp [idxs, List.getD_eq_getElem?_getD, h1]
  omega

theorem stable_law {R : List (List V)} {C1 C2 C3 : List Int} (p1 : C1.Perm (idxs R.length)) (s1 : Srt (ltN (colR R 0 (idxs R.length)) []) C1) (p2 : C2.Perm (idxs R.length)) (s2 : Srt (ltN (colR R 1 C1) []) C2)
    (p3 : C3.Perm (idxs R.length)) (s3 : Srt (ltN (bothR R) []) C3) : C2.map (fun i => C1.getD i.toNat 0) = C3 := by
  have l1 : C1.length = R.length := by rw [p1.length_eq, idxs_len]
  have hin1 : ∀ x : Int, x.toNat < R.length → 0 ≤ C1.getD x.toNat 0 ∧ C1.getD x.toNat 0 < R.length := fun x hx => by
    rw [List.getD_eq_getElem?_getD, List.getElem?_eq_getElem (by omega)]
    exact mem_idxs.1 (p1.mem_iff.1 (List.getElem_mem (by omega)))
  have hin2 : ∀ x ∈ C2, 0 ≤ x ∧ x < R.length := fun x hx => mem_idxs.1 (p2.mem_iff.1 hx)
  have hmap : (idxs R.length).map (fun i => C1.getD i.toNat 0) = C1 := by
    refine List.ext_getElem (by simp [idxs_len, l1]) fun i h1 h2 => ?_
    simp [idxs, List.getD_eq_getElem?_getD, h2]
  have hperm : (C2.map (fun i => C1.getD i.toNat 0)).Perm (idxs R.length) := by
    refine (p2.map _).trans ?_
    rw [hmap]
    exact p1
  refine srt_unique (ltN_swo (bothR_all R) []) (fun x hx => ?_) (hperm.trans p3.symm) ?_ s3
  · have := mem_idxs.1 (hperm.mem_iff.1 hx)
    unfold okN
    rw [bothR_len]
    exact this
  · unfold Srt
    rw [List.pairwise_map]
    refine List.Pairwise.imp_of_mem (fun {p q} hp hq h => ?_) s2
    have ip := hin2 p hp
    have iq := hin2 q hq
    have jp := hin1 p (by omega)
    have jq := hin1 q (by omega)
    have e1 : ∀ x y : Int, x.toNat < R.length → y.toNat < R.length → ltN (colR R 1 C1) [] x y = ltK (colK R 1 (C1.getD x.toNat 0)) (colK R 1 (C1.getD y.toNat 0)) := fun x y hx hy => ltN_col (by omega) (by omega)
    unfold bf at h
    rw [e1 p q (by omega) (by omega), e1 q p (by omega) (by omega)] at h
    have hA : p < q → bf (ltN (colR R 0 (idxs R.length)) []) (C1.getD p.toNat 0) (C1.getD q.toNat 0) := fun hpq => by
      have := List.pairwise_iff_getElem.1 s1 p.toNat q.toNat (by omega) (by omega) (by omega)
      rw [List.getD_eq_getElem?_getD, List.getElem?_eq_getElem (by omega : p.toNat < C1.length), List.getD_eq_getElem?_getD, List.getElem?_eq_getElem (by omega : q.toNat < C1.length)]
      exact this
    obtain ⟨x, hx⟩ : ∃ x, x = C1.getD p.toNat 0 := ⟨_, rfl⟩
    obtain ⟨y, hy⟩ : ∃ y, y = C1.getD q.toNat 0 := ⟨_, rfl⟩
    rw [← hx] at h jp hA ⊢
    rw [← hy] at h jq hA ⊢
    have e0 : ∀ x y : Int, 0 ≤ x → x < R.length → 0 ≤ y → y < R.length → ltN (colR R 0 (idxs R.length)) [] x y = ltK (colK R 0 x) (colK R 0 y) := fun x y a b c d => by
      rw [ltN_col (by rw [idxs_len]; omega) (by rw [idxs_len]; omega), idxs_getD a b, idxs_getD c d]
    unfold bf at hA
    rw [e0 x y jp.1 jp.2 jq.1 jq.2, e0 y x jq.1 jq.2 jp.1 jp.2] at hA
    unfold bf
    rw [ltN_both (by omega : x.toNat < R.length) (by omega : y.toNat < R.length), ltN_both (by omega : y.toNat < R.length) (by omega : x.toNat < R.length)]
    have hlt : ltK (colK R 1 x) (colK R 1 y) = true → (if colK R 1 x = colK R 1 y then ltK (colK R 0 x) (colK R 0 y) else ltK (colK R 1 x) (colK R 1 y)) = true := fun e => by
      rw [if_neg (fun e2 => by rw [e2, ltK_irrefl] at e; cases e)]; exact e
    rcases h with h | ⟨h, hpq⟩
    · exact .inl (hlt h)
    · by_cases h2 : ltK (colK R 1 x) (colK R 1 y) = true
      · exact .inl (hlt h2)
      · have he := ltK_total (by simpa using h2) h
        rw [if_pos he, if_pos he.symm]
        exact hA hpq
end Go.Proofs.Ytifcdfilglbdgaa
