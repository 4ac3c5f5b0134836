/-
  BookFirst, the plain law: who is first wins.
-/
import Derived.Test.YtdohkjpapmkhjaaDropW
namespace Go.Proofs.Ytdohkjpapmkhjaa
open Go.RowKit

/-- The log behind the first one's end and n more beginnings. -/
def Lb (n : Nat) : List Nat := 2 :: List.replicate n 1
theorem Lb_snoc (n : Nat) : Lb n ++ [1] = Lb (n + 1) := by
  unfold Lb
  rw [List.cons_append, ← List.replicate_succ']
theorem Lb_len (n : Nat) : (Lb n).length = n + 1 := by simp [Lb]
theorem stt_Lb (n : Nat) (y : Int) : stt 1 (Lb n) y = if y = 1 then 2 else if 2 ≤ y ∧ y < (n : Int) + 2 then 1 else 0 := by
  by_cases h1 : y < 1
  · rw [stt_lo h1, if_neg (by omega), if_neg (by omega)]
  · rw [stt_in (by omega)]
    by_cases h2 : y = 1
    · subst h2; rw [if_pos rfl]; rfl
    · rw [if_neg h2]
      obtain ⟨m, hm⟩ : ∃ m : Nat, y = m + 2 := ⟨(y - 2).toNat, by omega⟩
      subst hm
      have e : ((m : Int) + 2 - 1).toNat = m + 1 := by omega
      rw [e]
      unfold Lb
      rw [List.getD_cons_succ]
      by_cases h3 : m < n
      · rw [if_pos (by omega)]
        simp [List.getD_eq_getElem?_getD, h3]
      · rw [if_neg (by omega)]
        simp [List.getD_eq_getElem?_getD, h3]

/-- Snapshot i (from 0 on) of those that have begun behind the first one. -/
structure Nth (i : Nat) (s : Snp) : Prop where
  own : s.own = (i : Int) + 2
  xmax : s.xmax = (i : Int) + 3
  run : ∀ y, y ∈ s.run ↔ 2 ≤ y ∧ y < (i : Int) + 2
theorem nth_take (i : Nat) : Nth i (take 1 (Lb (i + 1)) ((i : Int) + 2)) := by
  refine ⟨rfl, ?_, fun y => ?_⟩
  · show (1 : Int) + ((Lb (i + 1)).length : Int) = _
    rw [Lb_len]; omega
  · show y ∈ (running 1 (Lb (i + 1))).filter (· != (i : Int) + 2) ↔ _
    rw [List.mem_filter, mem_running, stt_Lb]
    constructor
    · rintro ⟨h1, h2⟩
      have h2' : y ≠ (i : Int) + 2 := by simpa using h2
      by_cases e : y = 1
      · rw [if_pos e] at h1; omega
      · rw [if_neg e] at h1
        by_cases e2 : 2 ≤ y ∧ y < ((i + 1 : Nat) : Int) + 2
        · omega
        · rw [if_neg e2] at h1; omega
    · rintro ⟨h1, h2⟩
      refine ⟨?_, ?_⟩
      · rw [if_neg (by omega), if_pos (by omega)]
      · have : y ≠ (i : Int) + 2 := by omega
        simpa using this

section
variable {k i : Nat} {wins : Bool} {L : List Nat} {s : Snp}
theorem Nth.blind (h : Nth i s) {m : Int} (h1 : 2 ≤ m) (h2 : m < (i : Int) + 2) : sees 1 L s m = false := by
  unfold sees
  have e1 : (m == s.own) = false := by rw [beq_eq_false_iff_ne, h.own]; omega
  have e2 : s.run.contains m = true := by
    rw [List.contains_iff_mem]; exact (h.run m).2 ⟨h1, h2⟩
  rw [e1, e2]; simp
theorem Nth.one (h : Nth i s) (h1 : stt 1 L 1 = 2) : sees 1 L s 1 = true := by
  unfold sees
  have e1 : decide ((1 : Int) < s.xmax) = true := by rw [h.xmax]; simp; omega
  have e2 : s.run.contains 1 = false := by
    rw [← Bool.not_eq_true, List.contains_iff_mem, h.run]; omega
  rw [e1, e2, h1]; simp

/-! ### they make -/
structure Made (k i : Nat) (wins : Bool) (L : List Nat) (E : List Ent) : Prop where
  runs : ∀ y : Int, (i : Int) + 2 ≤ y → y < (k : Int) + 2 → stt 1 L y = 1
  ents : ∀ e ∈ E, e.name = nameT ∧ e.xmax = 0 ∧ 2 ≤ e.xmin ∧ e.xmin < (i : Int) + 2 ∧ (stt 1 L e.xmin = 3 ∨ stt 1 L e.xmin = 1)
  fst : wins = true ↔ ∀ e ∈ E, stt 1 L e.xmin = 3
  len : E.length ≤ i
theorem taken_blind (hs : Nth i s) : ∀ (E : List Ent) (acc : Int), (∀ e ∈ E, e.name = nameT ∧ e.xmax = 0 ∧ 2 ≤ e.xmin ∧ e.xmin < (i : Int) + 2 ∧ (stt 1 L e.xmin = 3 ∨ stt 1 L e.xmin = 1)) →
    (acc = 0 ∨ acc = 11) → ((∀ e ∈ E, stt 1 L e.xmin = 3) → takenE 1 L s nameT E acc = acc) ∧ ((∃ e ∈ E, stt 1 L e.xmin ≠ 3) ∨ acc = 11 → takenE 1 L s nameT E acc = 11)
  | [], acc, _, _ => ⟨fun _ => rfl, fun h => by
      rcases h with ⟨e, he, _⟩ | h
      · cases he
      · rw [h]; rfl⟩
  | e :: r, acc, hE, hacc => by
    obtain ⟨h1, h2, h3, h4, h5⟩ := hE e List.mem_cons_self
    have hr := fun x hx => hE x (List.mem_cons_of_mem _ hx)
    have hv : vis 1 L s e.xmin e.xmax = false := by unfold vis; rw [hs.blind h3 h4]; rfl
    have h0 : stt 1 L 0 = 0 := stt_lo (by decide)
    have hox : e.xmax ≠ s.own := by rw [h2, hs.own]; omega
    unfold takenE
    rw [if_pos h1, if_neg (by rw [hv]; decide)]
    rcases h5 with h5 | h5
    · have ha : aliveB 1 L e = false := by unfold aliveB; rw [h5]; rfl
      rw [if_neg (fun x => by rw [ha] at x; cases x.1)]
      obtain ⟨i1, i2⟩ := taken_blind hs r acc hr hacc
      refine ⟨fun h => i1 (fun x hx => h x (List.mem_cons_of_mem _ hx)), fun h => i2 ?_⟩
      rcases h with ⟨x, hx, hx3⟩ | h
      · rcases List.mem_cons.1 hx with rfl | hx
        · exact absurd h5 hx3
        · exact .inl ⟨x, hx, hx3⟩
      · exact .inr h
    · have ha : aliveB 1 L e = true := by unfold aliveB; rw [h5, h2, h0]; rfl
      rw [if_pos ⟨ha, hox⟩]
      obtain ⟨_, i2⟩ := taken_blind hs r 11 hr (.inr rfl)
      exact ⟨fun h => by have := h e List.mem_cons_self; omega, fun _ => i2 (.inr rfl)⟩
theorem Made.taken {E : List Ent} (h : Made k i wins L E) (hs : Nth i s) : takenE 1 L s nameT E 0 = if wins = true then 0 else 11 := by
  obtain ⟨h1, h2⟩ := taken_blind hs E 0 h.ents (.inl rfl)
  by_cases hf : wins = true
  · rw [if_pos hf]; exact h1 (h.fst.1 hf)
  · rw [if_neg hf]
    refine h2 (.inl ?_)
    exact Classical.byContradiction fun x => hf (h.fst.2 (fun e he => Classical.byContradiction fun h3 => x ⟨e, he, h3⟩))
theorem Made.start (k : Nat) : Made k 0 true (Lb k) [] :=
  ⟨fun y h1 h2 => by rw [stt_Lb, if_neg (by omega), if_pos (by omega)], (fun e he => by cases he), ⟨(fun _ e he => by cases he), fun _ => rfl⟩, Nat.le_refl _⟩
theorem Made.late {E : List Ent} (h : Made k i false L E) : Made k (i + 1) false L E :=
  ⟨fun y h1 h2 => h.runs y (by omega) h2, fun e he => by obtain ⟨a, b, c, d, f⟩ := h.ents e he; exact ⟨a, b, c, by omega, f⟩, h.fst, by have := h.len; omega⟩
theorem Made.won {E : List Ent} (h : Made k i true L E) (hk : i < k) (id : Int) : Made k (i + 1) false L (E ++ [⟨id, nameT, (i : Int) + 2, 0⟩]) := by
  have h1 := h.runs ((i : Int) + 2) (by omega) (by omega)
  refine ⟨fun y h1 h2 => h.runs y (by omega) h2, fun e he => ?_, ⟨fun x => (by cases x), fun x => ?_⟩, by have := h.len; simp; omega⟩
  · rcases List.mem_append.1 he with he | he
    · obtain ⟨a, b, c, d, f⟩ := h.ents e he; exact ⟨a, b, c, by omega, f⟩
    · obtain rfl := List.mem_singleton.1 he
      exact ⟨rfl, rfl, by simp only; omega, by simp only; omega, .inr h1⟩
  · have := x ⟨id, nameT, (i : Int) + 2, 0⟩ (by simp)
    simp only at this
    omega
theorem Made.lost {E : List Ent} (h : Made k i true L E) (hk : i < k) (id : Int) : Made k (i + 1) true (ended 1 L ((i : Int) + 2) 3) (E ++ [⟨id, nameT, (i : Int) + 2, 0⟩]) := by
  have h1 := h.runs ((i : Int) + 2) (by omega) (by omega)
  have ho : ∀ y, y ≠ (i : Int) + 2 → stt 1 (ended 1 L ((i : Int) + 2) 3) y = stt 1 L y := fun y hy => by rw [stt_ended, if_neg (fun x => hy x.1)]
  have hm : stt 1 (ended 1 L ((i : Int) + 2) 3) ((i : Int) + 2) = 3 := by rw [stt_ended, if_pos ⟨rfl, h1⟩]
  refine ⟨fun y h1 h2 => by rw [ho y (by omega)]; exact h.runs y (by omega) h2, fun e he => ?_, ⟨fun _ e he => ?_, fun _ => rfl⟩, by have := h.len; simp; omega⟩
  · rcases List.mem_append.1 he with he | he
    · obtain ⟨a, b, c, d, f⟩ := h.ents e he
      refine ⟨a, b, c, by omega, ?_⟩
      rw [ho _ (by omega)]; exact f
    · obtain rfl := List.mem_singleton.1 he
      exact ⟨rfl, rfl, by simp only; omega, by simp only; omega, .inl hm⟩
  · rcases List.mem_append.1 he with he | he
    · rw [ho _ (by have := (h.ents e he).2.2.2.1; omega)]
      exact h.fst.1 rfl e he
    · obtain rfl := List.mem_singleton.1 he
      exact hm

/-! ### they drop -/
structure Dropt (k i : Nat) (wins : Bool) (L : List Nat) (m : Int) : Prop where
  one : stt 1 L 1 = 2
  runs : ∀ y : Int, (i : Int) + 2 ≤ y → y < (k : Int) + 2 → stt 1 L y = 1
  m : (m = 0 ∧ wins = true) ∨ (2 ≤ m ∧ m < (i : Int) + 2 ∧ ((wins = true ∧ stt 1 L m = 3) ∨ (wins = false ∧ stt 1 L m = 1)))
theorem Dropt.vis {m : Int} (h : Dropt k i wins L m) (hs : Nth i s) : vis 1 L s 1 m = true := by
  unfold Ytdohkjpapmkhjaa.vis
  rw [hs.one h.one]
  rcases h.m with ⟨h1, _⟩ | ⟨h1, h2, _⟩
  · rw [h1]; rfl
  · rw [hs.blind h1 h2]; simp
theorem Dropt.free {m : Int} (h : Dropt k i wins L m) (hs : Nth i s) : freeE 1 L s 1 m = if wins = true then 0 else 11 := by
  unfold freeE
  rw [h.vis hs]
  rcases h.m with ⟨h1, h2⟩ | ⟨h1, h2, ⟨h3, h4⟩ | ⟨h3, h4⟩⟩
  · rw [if_neg (fun x => x.1 h1), if_pos rfl, if_pos h2]
  · rw [if_neg (fun x => x.2.2 h4), if_pos rfl, if_pos h3]
  · rw [if_pos ⟨by omega, by rw [hs.own]; omega, by omega⟩, if_neg (by rw [h3]; decide)]
theorem Dropt.start (k : Nat) : Dropt k 0 true (Lb k) 0 :=
  ⟨by rw [stt_Lb, if_pos rfl], fun y h1 h2 => by rw [stt_Lb, if_neg (by omega), if_pos (by omega)], .inl ⟨rfl, rfl⟩⟩
theorem Dropt.late {m : Int} (h : Dropt k i false L m) : Dropt k (i + 1) false L m :=
  ⟨h.one, fun y h1 h2 => h.runs y (by omega) h2, by
    rcases h.m with ⟨_, h2⟩ | ⟨h1, h2, h3⟩
    · cases h2
    · exact .inr ⟨h1, by omega, h3⟩⟩
theorem Dropt.won {m : Int} (h : Dropt k i true L m) (hk : i < k) : Dropt k (i + 1) false L ((i : Int) + 2) :=
  ⟨h.one, fun y h1 h2 => h.runs y (by omega) h2, .inr ⟨by omega, by omega, .inr ⟨rfl, h.runs _ (by omega) (by omega)⟩⟩⟩
theorem Dropt.lost {m : Int} (h : Dropt k i true L m) (hk : i < k) : Dropt k (i + 1) true (ended 1 L ((i : Int) + 2) 3) ((i : Int) + 2) := by
  have h1 := h.runs ((i : Int) + 2) (by omega) (by omega)
  have ho : ∀ y, y ≠ (i : Int) + 2 → stt 1 (ended 1 L ((i : Int) + 2) 3) y = stt 1 L y := fun y hy => by rw [stt_ended, if_neg (fun x => hy x.1)]
  exact ⟨by rw [ho _ (by omega)]; exact h.one, fun y h1 h2 => by rw [ho y (by omega)]; exact h.runs y (by omega) h2, .inr ⟨by omega, by omega, .inl ⟨rfl, by rw [stt_ended, if_pos ⟨rfl, h1⟩]⟩⟩⟩
end
end Go.Proofs.Ytdohkjpapmkhjaa
