/-
  WHAT IS PRUNED IS WHAT NOBODY SEES, plainly: tables and indexes as lists.
-/
import Derived.Test.YtdohkjpapmkhjaaPrune
import Derived.Test.YtdohkjpapmkhjaaLives
import Derived.Test.YtdohkjpapmkhjaaPair
import Derived.Test.YtdohkjpapmkhjaaDropW
namespace Go.Proofs.Ytdohkjpapmkhjaa
open Go.RowKit

theorem dead_unseen {L : List Nat} {s : Snp} {lows : List Int} (hf : Fits L s) (hs : s.xmin ∈ lows) (hown : stt 1 L s.own = 1) {a b : Int} (hd : deadB 1 L a b (least (1 + L.length) lows) = true) : vis 1 L s a b = false := by
  unfold vis
  rcases (dead_horizon (low := fun b => ∀ y ∈ lows, b < y) (fun _ => Iff.rfl) a b).1 hd with h | ⟨h3, h4, h5⟩
  · have : sees 1 L s a = false := by
      unfold sees
      have e1 : (a == s.own) = false := by
        rw [beq_eq_false_iff_ne]
        intro e
        have h' : stt 1 L a = 3 := h
        rw [e, hown] at h'
        cases h'
      have e2 : (stt 1 L a == 2) = false := by
        have h' : stt 1 L a = 3 := h
        rw [h']; rfl
      rw [e1, e2]; simp
    rw [this]; rfl
  · have h1 : b < s.xmin := h5 _ hs
    rw [hf.min, lt_least2] at h1
    have : sees 1 L s b = true := by
      unfold sees
      have e2 : decide (b < s.xmax) = true := by simpa using h1.1
      have e3 : s.run.contains b = false := by
        rw [List.contains_eq_mem]
        simp only [decide_eq_false_iff_not]
        intro hm
        have := h1.2 _ hm
        omega
      have h4' : stt 1 L b = 2 := h4
      rw [e2, e3, h4']; simp
    have e4 : (b == 0) = false := by rw [beq_eq_false_iff_ne]; exact h3
    rw [this, e4]; simp
theorem findT_filter {f : Int} {L : List Nat} {s : Snp} {name : ByteArray} {d : Nat × Ent × Value → Bool} : ∀ {T : List (Nat × Ent × Value)}, (∀ t ∈ T, d t = true → vis f L s t.2.1.xmin t.2.1.xmax = false) → findT f L s name (T.filter fun t => !d t) = findT f L s name T
  | [], _ => rfl
  | t :: T, h => by
    have ih := findT_filter (name := name) (T := T) (fun u hu => h u (List.mem_cons_of_mem _ hu))
    by_cases hd : d t = true
    · have hv := h t List.mem_cons_self hd
      rw [List.filter_cons_of_neg (by simp [hd]), ih]
      conv => rhs; unfold findT
      rw [if_neg (fun x => by rw [hv] at x; cases x.2)]
    · rw [List.filter_cons_of_pos (by simp [hd])]
      unfold findT
      rw [ih]
theorem visI_filter {f : Int} {L : List Nat} {s : Snp} {tid : Int} {d : Nat × Ent × Int → Bool} {I : List (Nat × Ent × Int)} (h : ∀ x ∈ I, d x = true → x.2.2 = tid → vis f L s x.2.1.xmin x.2.1.xmax = false) : visI f L s tid (I.filter fun x => !d x) = visI f L s tid I := by
  unfold visI
  rw [List.filter_filter]
  apply List.filter_congr
  intro x hx
  by_cases hd : d x = true
  · by_cases e : x.2.2 = tid
    · rw [h x hx hd e]; simp
    · simp [e]
  · simp [hd]

/-- The number of the table that is seen under a name, and how many indexes of it are. -/
def seenT (L : List Nat) (s : Snp) (name : ByteArray) (T : List (Nat × Ent × Value)) : Int := match findT 1 L s name T with | some t => t.2.1.id | none => 0
theorem findT_vis {f : Int} {L : List Nat} {s : Snp} {name : ByteArray} {t : Nat × Ent × Value} : ∀ {T : List (Nat × Ent × Value)}, findT f L s name T = some t → vis f L s t.2.1.xmin t.2.1.xmax = true
  | a :: r, h => by
    unfold findT at h
    by_cases hc : a.2.1.name = name ∧ vis f L s a.2.1.xmin a.2.1.xmax = true
    · rw [if_pos hc] at h; obtain rfl := Option.some.inj h; exact hc.2
    · rw [if_neg hc] at h; exact findT_vis h
theorem prune_same {L : List Nat} {s : Snp} {lows : List Int} {hz : Int} (hz0 : hz = least (1 + L.length) lows) (hf : Fits L s) (hs : s.xmin ∈ lows) (hown : stt 1 L s.own = 1) {T : List (Nat × Ent × Value)} {I : List (Nat × Ent × Int)} (hids : (T.map fun t => t.2.1.id).Nodup) (hpos : ∀ t ∈ T, 1 ≤ t.2.1.id) (name : ByteArray) :
    findT 1 L s name (T.filter fun t => !deadT 1 L hz t) = findT 1 L s name T ∧ visI 1 L s (seenT L s name T) (I.filter fun x => !deadI 1 L hz T x) = visI 1 L s (seenT L s name T) I := by
  subst hz0
  refine ⟨findT_filter (fun t _ hd => dead_unseen hf hs hown hd), visI_filter (fun x _ hd e => ?_)⟩
  unfold deadI at hd
  rw [Bool.or_eq_true] at hd
  rcases hd with hd | hd
  · exact dead_unseen hf hs hown hd
  · exfalso
    rw [List.contains_eq_mem, decide_eq_true_eq] at hd
    unfold deadIds at hd
    obtain ⟨t', ht', he⟩ := List.mem_map.1 hd
    obtain ⟨hm, hdead⟩ := List.mem_filter.1 ht'
    rw [e] at he
    unfold seenT at he
    cases hc : findT 1 L s name T with
    | none =>
      rw [hc] at he
      have := hpos t' hm
      simp only at he
      omega
    | some t =>
      rw [hc] at he
      simp only at he
      have hmt := findT_mem hc
      have htt : t' = t := by
        obtain ⟨i, hi, e1⟩ := List.mem_iff_getElem.1 hm
        obtain ⟨j, hj, e2⟩ := List.mem_iff_getElem.1 hmt
        have : i = j := (List.getElem_inj (h₀ := by simpa using hi) (h₁ := by simpa using hj) hids).1 (by simp only [List.getElem_map]; rw [e1, e2]; exact he)
        subst this
        rw [← e1, ← e2]
      subst htt
      have h1 := findT_vis hc
      rw [dead_unseen hf hs hown hdead] at h1
      cases h1
end Go.Proofs.Ytdohkjpapmkhjaa
