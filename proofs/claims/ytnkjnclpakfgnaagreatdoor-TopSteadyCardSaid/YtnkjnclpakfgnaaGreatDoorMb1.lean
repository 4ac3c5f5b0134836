/- A page's bytes, plainly: what lies in them ('PageIs'), and what it is to write into them. No program, no condition. · Rows of bytes in memory (a page's, a version's): num, put. · Package page: count, start, set, at, point, bytesOf, free, Room, of any page's bytes. · Package page: free, Room, far, right, New, Slots. No conditions. -/
import Derived.WalkKit
import Derived.Test.YtnkjnclpakfgnaaGreatDoorProg
import Derived.Test.YtnkjnclpakfgnaaGreatDoorMa0
import Derived.ProofKit
import Derived.IntWalk
import Derived.BigQuiet
import Derived.Deep.QuietTactic
import Derived.Deep.RegionHeld3
namespace Go.Proofs.YtnkjnclpakfgnaaGreatDoor

def rd (f : Nat → Nat) (a n : Nat) : List Nat := (List.range n).map fun i => f (a + i)
def spl (f : Nat → Nat) (a : Nat) (l : List Nat) : Nat → Nat := fun i => if a ≤ i ∧ i < a + l.length then l.getD (i - a) 0 else f i
def w16 (f : Nat → Nat) (o : Nat) : Nat := f o + 256 * f (o + 1)
def leB (k n : Nat) : List Nat := (List.range k).map fun i => n / 256 ^ i % 256
def numL : List Nat → Nat
 | [] => 0
 | b :: l => b + 256 * numL l

@[simp] theorem rd_length (f : Nat → Nat) (a n : Nat) : (rd f a n).length = n := by simp [rd]
@[simp] theorem leB_length (k n : Nat) : (leB k n).length = k := by simp [leB]
theorem rd_get (f : Nat → Nat) (a n i : Nat) (h : i < n) : (rd f a n)[i]? = some (f (a + i)) := by simp [rd, h]
theorem rd_congr {f g : Nat → Nat} {a n : Nat} (h : ∀ i, i < n → f (a + i) = g (a + i)) : rd f a n = rd g a n := by
 unfold rd; exact List.map_congr_left fun i hi => h i (List.mem_range.1 hi)
theorem rd_append (f : Nat → Nat) (a m n : Nat) : rd f a (m + n) = rd f a m ++ rd f (a + m) n := by
 unfold rd; rw [List.range_add, List.map_append, List.map_map]; congr 1
 exact List.map_congr_left fun i _ => by simp [Nat.add_assoc]
theorem rd_spl (f : Nat → Nat) (a : Nat) (l : List Nat) : rd (spl f a l) a l.length = l := by
 apply List.ext_getElem?
 intro i
 by_cases h : i < l.length
 · rw [rd_get _ _ _ _ h, List.getElem?_eq_getElem h, spl, if_pos ⟨by omega, by omega⟩, Nat.add_sub_cancel_left, List.getD_eq_getElem?_getD, List.getElem?_eq_getElem h]; rfl
 · rw [List.getElem?_eq_none (by simp; omega), List.getElem?_eq_none (by omega)]
theorem spl_out {f : Nat → Nat} {a : Nat} {l : List Nat} {i : Nat} (h : i < a ∨ a + l.length ≤ i) : spl f a l i = f i := by
 unfold spl; rw [if_neg (by omega)]
theorem spl_in {f : Nat → Nat} {a : Nat} {l : List Nat} {i : Nat} (h : i < l.length) : spl f a l (a + i) = l[i] := by
 unfold spl; rw [if_pos ⟨by omega, by omega⟩, Nat.add_sub_cancel_left, List.getD_eq_getElem?_getD, List.getElem?_eq_getElem h]; rfl
theorem rd_spl_out {f : Nat → Nat} {a b n : Nat} {l : List Nat} (h : b + n ≤ a ∨ a + l.length ≤ b) : rd (spl f a l) b n = rd f b n :=
 rd_congr fun i hi => spl_out (by omega)
theorem w16_spl_out {f : Nat → Nat} {a o : Nat} {l : List Nat} (h : o + 2 ≤ a ∨ a + l.length ≤ o) : w16 (spl f a l) o = w16 f o := by
 unfold w16; rw [spl_out (by omega), spl_out (by omega)]
theorem w16_le (f : Nat → Nat) (a n : Nat) (h : n < 65536) : w16 (spl f a (leB 2 n)) a = n := by
 have e0 := spl_in (f := f) (a := a) (l := leB 2 n) (i := 0) (by simp)
 have e1 := spl_in (f := f) (a := a) (l := leB 2 n) (i := 1) (by simp)
 unfold w16
 rw [e1, show spl f a (leB 2 n) a = _ from e0]
 simp [leB]; omega
theorem w16_lt {f : Nat → Nat} (h : ∀ i, f i < 256) (o : Nat) : w16 f o < 65536 := by
 have := h o; have := h (o + 1); unfold w16; omega
theorem leB_lt (k n : Nat) : ∀ x ∈ leB k n, x < 256 := by
 intro x hx; simp [leB] at hx; obtain ⟨i, _, rfl⟩ := hx; exact Nat.mod_lt _ (by decide)
theorem spl_lt {f : Nat → Nat} (h : ∀ i, f i < 256) {l : List Nat} (hl : ∀ x ∈ l, x < 256) (a : Nat) : ∀ i, spl f a l i < 256 := by
 intro i; unfold spl
 split
 · rw [List.getD_eq_getElem?_getD, List.getElem?_eq_getElem (by omega)]; exact hl _ (List.getElem_mem _)
 · exact h i
theorem numL_leB : ∀ (k n : Nat), n < 256 ^ k → numL (leB k n) = n
 | 0, n, h => by simp at h; subst h; rfl
 | k + 1, n, h => by
  have e : leB (k + 1) n = n % 256 :: leB k (n / 256) := by
   unfold leB; rw [List.range_succ_eq_map, List.map_cons, List.map_map]
   congr 1
   · simp
   · exact List.map_congr_left fun i _ => by simp [Nat.pow_succ, Nat.div_div_eq_div_mul, Nat.mul_comm]
  rw [e, numL, numL_leB k (n / 256) (by rw [Nat.pow_succ] at h; exact Nat.div_lt_of_lt_mul (by omega))]
  omega
theorem numL_lt : ∀ {l : List Nat}, (∀ x ∈ l, x < 256) → numL l < 256 ^ l.length
 | [], _ => by simp [numL]
 | b :: l, h => by
  have h1 := h b (by simp)
  have h2 := numL_lt (l := l) (fun x hx => h x (by simp [hx]))
  simp only [numL, List.length_cons, Nat.pow_succ]
  omega

/-- A version. -/
structure Ver where
 row : Nat
 xmin : Nat
 xmax : Nat
 pg : Int
 sl : Int
 data : List Nat

def FarOk (pg sl : Int) : Prop := (pg = -1 ∧ sl = -1) ∨ (0 ≤ pg ∧ pg < 65536 ∧ 0 ≤ sl ∧ sl < 65535)
def VerOk (v : Ver) : Prop := v.row ≤ 1099511627776 ∧ v.xmin ≤ 1099511627776 ∧ v.xmax ≤ 1099511627776 ∧ FarOk v.pg v.sl ∧ v.data.length ≤ 200 ∧ (∀ x ∈ v.data, x < 256) ∧ 1 ≤ v.data.length
def head (v : Ver) : List Nat := leB 8 v.row ++ leB 8 v.xmin ++ leB 8 v.xmax ++ leB 4 (v.pg + 1).toNat ++ leB 2 (v.sl + 1).toNat
def packV (v : Ver) : List Nat := head v ++ v.data
@[simp] theorem head_length (v : Ver) : (head v).length = 30 := by simp [head]
@[simp] theorem packV_length (v : Ver) : (packV v).length = 30 + v.data.length := by simp [packV]
theorem packV_lt {v : Ver} (h : VerOk v) : ∀ x ∈ packV v, x < 256 := by
 intro x hx
 simp only [packV, head, List.mem_append] at hx
 obtain ⟨_, _, _, _, _, h6, _⟩ := h
 rcases hx with ((((hx | hx) | hx) | hx) | hx) | hx
 all_goals first | exact leB_lt _ _ x hx | exact h6 x hx

/-- What lies in a page's bytes. -/
structure PageIs (f : Nat → Nat) (S : List (Option Ver)) : Prop where
 cnt : w16 f 0 = S.length
 lo : 4 + 4 * S.length ≤ w16 f 2
 hi : w16 f 2 ≤ 512
 no : ∀ i, S[i]? = some none → w16 f (4 + 4 * i + 2) = 0
 yes : ∀ i v, S[i]? = some (some v) → VerOk v ∧ w16 f (4 + 4 * i + 2) = 30 + v.data.length ∧ w16 f 2 ≤ w16 f (4 + 4 * i) ∧ w16 f (4 + 4 * i) + (30 + v.data.length) ≤ 512 ∧ rd f (w16 f (4 + 4 * i)) (30 + v.data.length) = packV v
 apart : ∀ i j v u, i ≠ j → S[i]? = some (some v) → S[j]? = some (some u) → w16 f (4 + 4 * i) + (30 + v.data.length) ≤ w16 f (4 + 4 * j) ∨ w16 f (4 + 4 * j) + (30 + u.data.length) ≤ w16 f (4 + 4 * i)

theorem PageIs.len {f : Nat → Nat} {S : List (Option Ver)} (h : PageIs f S) : S.length ≤ 127 := by have := h.lo; have := h.hi; omega

/-- The same page where the bytes that count are the same. -/
theorem PageIs.congr {f g : Nat → Nat} {S : List (Option Ver)} (h : PageIs f S) (hg : ∀ i, i < 4 + 4 * S.length ∨ w16 f 2 ≤ i → g i = f i) : PageIs g S := by
 have hlo := h.lo
 have e0 : w16 g 0 = w16 f 0 := by unfold w16; rw [hg _ (by omega), hg _ (by omega)]
 have e2 : w16 g 2 = w16 f 2 := by unfold w16; rw [hg _ (by omega), hg _ (by omega)]
 have ep : ∀ i, i < S.length → w16 g (4 + 4 * i) = w16 f (4 + 4 * i) ∧ w16 g (4 + 4 * i + 2) = w16 f (4 + 4 * i + 2) := fun i hi => by
  constructor <;> (unfold w16; rw [hg _ (by omega), hg _ (by omega)])
 have il : ∀ {i : Nat} {x : Option Ver}, S[i]? = some x → i < S.length := fun hx => (List.getElem?_eq_some_iff.1 hx).1
 refine ⟨e0.trans h.cnt, by rw [e2]; exact h.lo, by rw [e2]; exact h.hi, fun i hi => by rw [(ep i (il hi)).2]; exact h.no i hi, fun i v hi => ?_, fun i j v u hij hi hj => by rw [(ep i (il hi)).1, (ep j (il hj)).1]; exact h.apart i j v u hij hi hj⟩
 obtain ⟨h1, h2, h3, h4, h5⟩ := h.yes i v hi
 rw [(ep i (il hi)).1, (ep i (il hi)).2, e2]
 exact ⟨h1, h2, h3, h4, by rw [← h5]; exact rd_congr fun k _ => hg _ (by omega)⟩

theorem PageIs.new (f : Nat → Nat) : PageIs (spl (spl f 0 (leB 2 0)) 2 (leB 2 512)) [] :=
 ⟨by rw [w16_spl_out (by simp)]; exact w16_le _ _ _ (by decide), by rw [w16_le _ _ _ (by decide)]; simp, by rw [w16_le _ _ _ (by decide)]; exact Nat.le_refl _, fun i h => by simp at h, fun i v h => by simp at h, fun i j v u _ h => by simp at h⟩

/-- 'set'. -/
def setF (f : Nat → Nat) (c s : Nat) : Nat → Nat := spl (spl f 0 (leB 2 c)) 2 (leB 2 s)
/-- 'point'. -/
def ptF (f : Nat → Nat) (i a n : Nat) : Nat → Nat := spl (spl f (4 + 4 * i) (leB 2 a)) (4 + 4 * i + 2) (leB 2 n)
theorem setF_out {f : Nat → Nat} {c s i : Nat} (h : 4 ≤ i) : setF f c s i = f i := by unfold setF; rw [spl_out (by simp; omega), spl_out (by simp; omega)]
theorem setF_cnt {f : Nat → Nat} {c s : Nat} (h : c < 65536) : w16 (setF f c s) 0 = c := by unfold setF; rw [w16_spl_out (by simp)]; exact w16_le _ _ _ h
theorem setF_st {f : Nat → Nat} {c s : Nat} (h : s < 65536) : w16 (setF f c s) 2 = s := w16_le _ _ _ h
theorem ptF_out {f : Nat → Nat} {i a n k : Nat} (h : k < 4 + 4 * i ∨ 8 + 4 * i ≤ k) : ptF f i a n k = f k := by unfold ptF; rw [spl_out (by simp; omega), spl_out (by simp; omega)]
theorem ptF_at {f : Nat → Nat} {i a n : Nat} (h : a < 65536) : w16 (ptF f i a n) (4 + 4 * i) = a := by unfold ptF; rw [w16_spl_out (by simp)]; exact w16_le _ _ _ h
theorem ptF_sz {f : Nat → Nat} {i a n : Nat} (h : n < 65536) : w16 (ptF f i a n) (4 + 4 * i + 2) = n := w16_le _ _ _ h
theorem w16_setF {f : Nat → Nat} {c s o : Nat} (h : 4 ≤ o) : w16 (setF f c s) o = w16 f o := by unfold w16; rw [setF_out h, setF_out (by omega)]
theorem w16_ptF {f : Nat → Nat} {i a n o : Nat} (h : o + 2 ≤ 4 + 4 * i ∨ 8 + 4 * i ≤ o) : w16 (ptF f i a n) o = w16 f o := by unfold w16; rw [ptF_out (by omega), ptF_out (by omega)]
theorem rd_ptF {f : Nat → Nat} {i a n o k : Nat} (h : o + k ≤ 4 + 4 * i ∨ 8 + 4 * i ≤ o) : rd (ptF f i a n) o k = rd f o k := rd_congr fun j hj => ptF_out (by omega)
theorem rd_setF {f : Nat → Nat} {c s o k : Nat} (h : 4 ≤ o) : rd (setF f c s) o k = rd f o k := rd_congr fun j _ => setF_out (by omega)

/-- The slot that the next version takes; the slots behind it. -/
def freeS (S : List (Option Ver)) : Nat := S.findIdx Option.isNone
def insS (S : List (Option Ver)) (i : Nat) (v : Ver) : List (Option Ver) := if i = S.length then S ++ [some v] else S.set i (some v)
theorem insS_length (S : List (Option Ver)) (i : Nat) (v : Ver) : (insS S i v).length = max S.length (if i = S.length then i + 1 else 0) := by
 unfold insS; split <;> simp <;> omega
theorem insS_get {S : List (Option Ver)} {i : Nat} (hi : i ≤ S.length) (v : Ver) (k : Nat) : (insS S i v)[k]? = if k = i then some (some v) else S[k]? := by
 unfold insS
 split
 · rename_i h; subst h
   by_cases hk : k = S.length
   · subst hk; simp
   · rw [if_neg hk]
     by_cases hk2 : k < S.length
     · rw [List.getElem?_append_left hk2]
     · rw [List.getElem?_eq_none (by simp; omega), List.getElem?_eq_none (by omega)]
 · rw [List.getElem?_set]
   by_cases hk : i = k
   · subst hk; rw [if_pos rfl, if_pos rfl, if_pos (by omega)]
   · rw [if_neg hk, if_neg (fun e => hk e.symm)]

/-- A version written where there is room: at the slot i, which is free. -/
theorem PageIs.ins {f : Nat → Nat} {S : List (Option Ver)} (h : PageIs f S) {i : Nat} (hi : i ≤ S.length) (hf : ∀ v, S[i]? ≠ some (some v)) {v : Ver} (hv : VerOk v)
   (hr : 4 + 4 * max S.length (i + 1) + (30 + v.data.length) ≤ w16 f 2) :
   PageIs (ptF (spl (setF f (max S.length (i + 1)) (w16 f 2 - (30 + v.data.length))) (w16 f 2 - (30 + v.data.length)) (packV v)) i (w16 f 2 - (30 + v.data.length)) (30 + v.data.length)) (insS S i v) := by
 have hhi := h.hi
 have hlo := h.lo
 have hl := hv.2.2.2.2.1
 generalize hC : max S.length (i + 1) = C at hr ⊢
 generalize hA : w16 f 2 - (30 + v.data.length) = A
 have hCl : (insS S i v).length = C := by rw [insS_length]; split <;> omega
 have il : ∀ {k : Nat} {x : Option Ver}, S[k]? = some x → k < S.length := fun hx => (List.getElem?_eq_some_iff.1 hx).1
 have hp : (packV v).length = 30 + v.data.length := packV_length v
 have eo : ∀ o, 4 ≤ o → (o + 2 ≤ 4 + 4 * i ∨ 8 + 4 * i ≤ o) → o + 2 ≤ A ∨ A + (30 + v.data.length) ≤ o → w16 (ptF (spl (setF f C A) A (packV v)) i A (30 + v.data.length)) o = w16 f o := fun o h4 h1 h2 => by
  rw [w16_ptF h1, w16_spl_out (by omega), w16_setF h4]
 have e2 : w16 (ptF (spl (setF f C A) A (packV v)) i A (30 + v.data.length)) 2 = A := by
  rw [w16_ptF (by omega), w16_spl_out (by omega), setF_st (by omega)]
 have ei : w16 (ptF (spl (setF f C A) A (packV v)) i A (30 + v.data.length)) (4 + 4 * i) = A := ptF_at (by omega)
 have old : ∀ k u, k ≠ i → S[k]? = some (some u) → w16 (ptF (spl (setF f C A) A (packV v)) i A (30 + v.data.length)) (4 + 4 * k) = w16 f (4 + 4 * k) ∧ w16 (ptF (spl (setF f C A) A (packV v)) i A (30 + v.data.length)) (4 + 4 * k + 2) = w16 f (4 + 4 * k + 2) := fun k u hk hu => by
  have := il hu
  exact ⟨eo _ (by omega) (by omega) (by omega), eo _ (by omega) (by omega) (by omega)⟩
 refine ⟨?_, ?_, ?_, fun k hk => ?_, fun k u hk => ?_, fun k j u x hkj hk hj => ?_⟩
 · rw [hCl, w16_ptF (by omega), w16_spl_out (by omega), setF_cnt (by omega)]
 · rw [hCl, e2]; omega
 · rw [e2]; omega
 · rw [insS_get hi] at hk
   by_cases e : k = i
   · rw [if_pos e] at hk; simp at hk
   · rw [if_neg e] at hk
     have := il hk
     rw [eo _ (by omega) (by omega) (by omega)]; exact h.no k hk
 · rw [insS_get hi] at hk
   by_cases e : k = i
   · rw [if_pos e] at hk
     simp only [Option.some.injEq] at hk
     subst hk; subst e
     refine ⟨hv, ptF_sz (by omega), by rw [ei, e2]; exact Nat.le_refl _, by rw [ei]; omega, ?_⟩
     rw [ei, rd_ptF (by omega), ← hp]; exact rd_spl _ _ _
   · rw [if_neg e] at hk
     obtain ⟨h1, h2, h3, h4, h5⟩ := h.yes k u hk
     obtain ⟨o1, o2⟩ := old k u e hk
     have := il hk
     rw [o1, o2, e2]
     exact ⟨h1, h2, by omega, h4, by rw [rd_ptF (by omega), rd_spl_out (by omega), rd_setF (by omega)]; exact h5⟩
 · rw [insS_get hi] at hk hj
   by_cases e : k = i
   · have e' : j ≠ i := fun x => hkj (e.trans x.symm)
     rw [if_pos e] at hk; rw [if_neg e'] at hj
     simp only [Option.some.injEq] at hk
     subst hk; subst e
     obtain ⟨h1, h2, h3, h4, h5⟩ := h.yes j x hj
     rw [ei, (old j x e' hj).1]; omega
   · rw [if_neg e] at hk
     obtain ⟨h1, h2, h3, h4, h5⟩ := h.yes k u hk
     by_cases e' : j = i
     · rw [if_pos e'] at hj
       simp only [Option.some.injEq] at hj
       subst hj; subst e'
       rw [ei, (old k u e hk).1]; omega
     · rw [if_neg e'] at hj
       rw [(old k u e hk).1, (old j x e' hj).1]; exact h.apart k j u x hkj hk hj

/-- A version's stamps written anew. -/
def stampV (v : Ver) (x : Nat) (pg sl : Int) : Ver := { v with xmax := x, pg := pg, sl := sl }
def stF (f : Nat → Nat) (a x : Nat) (pg sl : Int) : Nat → Nat := spl (spl (spl f (a + 16) (leB 8 x)) (a + 24) (leB 4 (pg + 1).toNat)) (a + 28) (leB 2 (sl + 1).toNat)
theorem stF_out {f : Nat → Nat} {a x : Nat} {pg sl : Int} {i : Nat} (h : i < a + 16 ∨ a + 30 ≤ i) : stF f a x pg sl i = f i := by
 unfold stF; rw [spl_out (by simp; omega), spl_out (by simp; omega), spl_out (by simp; omega)]
theorem app_eq {α : Type} {a b c d : List α} (h : a ++ b = c ++ d) (hl : a.length = c.length) : a = c ∧ b = d := List.append_inj h hl
theorem rd_stF {f : Nat → Nat} {a x : Nat} {pg sl : Int} {v : Ver} (h : rd f a (30 + v.data.length) = packV v) : rd (stF f a x pg sl) a (30 + (stampV v x pg sl).data.length) = packV (stampV v x pg sl) := by
 have e : ∀ g : Nat → Nat, rd g a (30 + v.data.length) = rd g a 16 ++ (rd g (a + 16) 8 ++ (rd g (a + 24) 4 ++ (rd g (a + 28) 2 ++ rd g (a + 30) v.data.length))) := fun g => by
  rw [show 30 + v.data.length = 16 + (8 + (4 + (2 + v.data.length))) by omega, rd_append, rd_append, rd_append, rd_append]
 have p : ∀ u : Ver, packV u = (leB 8 u.row ++ leB 8 u.xmin) ++ (leB 8 u.xmax ++ (leB 4 (u.pg + 1).toNat ++ (leB 2 (u.sl + 1).toNat ++ u.data))) := fun u => by simp [packV, head]
 rw [e, p] at h
 obtain ⟨h1, h⟩ := app_eq h (by simp)
 obtain ⟨_, h⟩ := app_eq h (by simp)
 obtain ⟨_, h⟩ := app_eq h (by simp)
 obtain ⟨_, h5⟩ := app_eq h (by simp)
 have hd : (stampV v x pg sl).data.length = v.data.length := rfl
 rw [hd, e, p]
 have g1 : rd (stF f a x pg sl) a 16 = rd f a 16 := rd_congr fun i hi => stF_out (by omega)
 have g5 : rd (stF f a x pg sl) (a + 30) v.data.length = rd f (a + 30) v.data.length := rd_congr fun i hi => stF_out (by omega)
 have g2 : rd (stF f a x pg sl) (a + 16) 8 = leB 8 x := by
  unfold stF; rw [rd_spl_out (by simp), rd_spl_out (by simp)]; simpa using rd_spl f (a + 16) (leB 8 x)
 have g3 : rd (stF f a x pg sl) (a + 24) 4 = leB 4 (pg + 1).toNat := by
  unfold stF; rw [rd_spl_out (by simp)]; simpa using rd_spl (spl f (a + 16) (leB 8 x)) (a + 24) (leB 4 (pg + 1).toNat)
 have g4 : rd (stF f a x pg sl) (a + 28) 2 = leB 2 (sl + 1).toNat := by
  unfold stF; simpa using rd_spl _ (a + 28) (leB 2 (sl + 1).toNat)
 rw [g1, g2, g3, g4, g5, h1, h5]; rfl

theorem PageIs.stamp {f : Nat → Nat} {S : List (Option Ver)} (h : PageIs f S) {i : Nat} {v : Ver} (hi : S[i]? = some (some v)) {x : Nat} {pg sl : Int} (hx : x ≤ 1099511627776) (hf : FarOk pg sl) :
   PageIs (stF f (w16 f (4 + 4 * i)) x pg sl) (S.set i (some (stampV v x pg sl))) := by
 obtain ⟨h1, h2, h3, h4, h5⟩ := h.yes i v hi
 have hlo := h.lo
 have il : ∀ {k : Nat} {x : Option Ver}, S[k]? = some x → k < S.length := fun hx => (List.getElem?_eq_some_iff.1 hx).1
 have hil := il hi
 generalize hA : w16 f (4 + 4 * i) = A at h3 h4 h5 ⊢
 have eo : ∀ o, o + 2 ≤ 4 + 4 * S.length → w16 (stF f A x pg sl) o = w16 f o := fun o ho => by unfold w16; rw [stF_out (by omega), stF_out (by omega)]
 have g : ∀ k, (S.set i (some (stampV v x pg sl)))[k]? = if k = i then some (some (stampV v x pg sl)) else S[k]? := fun k => by
  rw [List.getElem?_set]
  by_cases hk : i = k
  · subst hk; rw [if_pos rfl, if_pos rfl, if_pos hil]
  · rw [if_neg hk, if_neg (fun e => hk e.symm)]
 have hd : (stampV v x pg sl).data.length = v.data.length := rfl
 refine ⟨by rw [eo _ (by omega), List.length_set]; exact h.cnt, by rw [eo _ (by omega), List.length_set]; exact h.lo, by rw [eo _ (by omega)]; exact h.hi, fun k hk => ?_, fun k u hk => ?_, fun k j u y hkj hk hj => ?_⟩
 · rw [g] at hk
   by_cases e : k = i
   · rw [if_pos e] at hk; simp at hk
   · rw [if_neg e] at hk
     have := il hk
     rw [eo _ (by omega)]; exact h.no k hk
 · rw [g] at hk
   by_cases e : k = i
   · rw [if_pos e] at hk
     simp only [Option.some.injEq] at hk
     subst hk; subst e
     rw [eo _ (by omega), eo _ (by omega), eo _ (by omega), hA]
     exact ⟨⟨h1.1, h1.2.1, hx, hf, h1.2.2.2.2⟩, by rw [hd]; exact h2, h3, by rw [hd]; exact h4, rd_stF h5⟩
   · rw [if_neg e] at hk
     obtain ⟨k1, k2, k3, k4, k5⟩ := h.yes k u hk
     have := il hk
     have ha := h.apart i k v u (fun x => e x.symm) hi hk
     rw [eo _ (by omega), eo _ (by omega), eo _ (by omega)]
     exact ⟨k1, k2, k3, k4, by rw [← k5]; exact rd_congr fun m hm => stF_out (by omega)⟩
 · have hkl : k < S.length := by have := (List.getElem?_eq_some_iff.1 hk).1; simpa using this
   have hjl : j < S.length := by have := (List.getElem?_eq_some_iff.1 hj).1; simpa using this
   rw [eo _ (by omega), eo _ (by omega)]
   rw [g] at hk hj
   by_cases e : k = i
   · have e' : j ≠ i := fun x => hkj (e.trans x.symm)
     rw [if_pos e] at hk; rw [if_neg e'] at hj
     simp only [Option.some.injEq] at hk
     subst hk; subst e
     rw [hd]; exact h.apart k j v y hkj hi hj
   · rw [if_neg e] at hk
     by_cases e' : j = i
     · rw [if_pos e'] at hj
       simp only [Option.some.injEq] at hj
       subst hj; subst e'
       rw [hd]; exact h.apart k j u v hkj hk hi
     · rw [if_neg e'] at hj
       exact h.apart k j u y hkj hk hj

def zeros (n : Nat) : List Nat := List.replicate n 0
@[simp] theorem zeros_length (n : Nat) : (zeros n).length = n := by simp [zeros]
theorem set_get {S : List (Option Ver)} {i : Nat} (hi : i < S.length) (x : Option Ver) (k : Nat) : (S.set i x)[k]? = if k = i then some x else S[k]? := by
 rw [List.getElem?_set]
 by_cases hk : i = k
 · subst hk; rw [if_pos rfl, if_pos rfl, if_pos hi]
 · rw [if_neg hk, if_neg (fun e => hk e.symm)]

/-- A version gone. -/
theorem PageIs.gone {f : Nat → Nat} {S : List (Option Ver)} (h : PageIs f S) {i : Nat} {v : Ver} (hi : S[i]? = some (some v)) :
   PageIs (ptF (spl f (w16 f (4 + 4 * i)) (zeros (30 + v.data.length))) i 0 0) (S.set i none) := by
 obtain ⟨h1, h2, h3, h4, h5⟩ := h.yes i v hi
 have hlo := h.lo
 have il : ∀ {k : Nat} {x : Option Ver}, S[k]? = some x → k < S.length := fun hx => (List.getElem?_eq_some_iff.1 hx).1
 have hil := il hi
 generalize hA : w16 f (4 + 4 * i) = A at h3 h4 h5 ⊢
 have eo : ∀ o, o + 2 ≤ 4 + 4 * S.length → (o + 2 ≤ 4 + 4 * i ∨ 8 + 4 * i ≤ o) → w16 (ptF (spl f A (zeros (30 + v.data.length))) i 0 0) o = w16 f o := fun o ho h1 => by
  rw [w16_ptF h1, w16_spl_out (by simp; omega)]
 refine ⟨by rw [eo _ (by omega) (by omega), List.length_set]; exact h.cnt, by rw [eo _ (by omega) (by omega), List.length_set]; exact h.lo, by rw [eo _ (by omega) (by omega)]; exact h.hi, fun k hk => ?_, fun k u hk => ?_, fun k j u y hkj hk hj => ?_⟩
 · rw [set_get hil] at hk
   by_cases e : k = i
   · subst e; exact ptF_sz (by omega)
   · rw [if_neg e] at hk
     have := il hk
     rw [eo _ (by omega) (by omega)]; exact h.no k hk
 · rw [set_get hil] at hk
   by_cases e : k = i
   · rw [if_pos e] at hk; simp at hk
   · rw [if_neg e] at hk
     obtain ⟨k1, k2, k3, k4, k5⟩ := h.yes k u hk
     have := il hk
     have ha := h.apart i k v u (fun x => e x.symm) hi hk
     rw [eo _ (by omega) (by omega), eo _ (by omega) (by omega), eo _ (by omega) (by omega)]
     exact ⟨k1, k2, k3, k4, by rw [rd_ptF (by omega), rd_spl_out (by simp; omega)]; exact k5⟩
 · rw [set_get hil] at hk hj
   by_cases e : k = i
   · rw [if_pos e] at hk; simp at hk
   · by_cases e' : j = i
     · rw [if_pos e'] at hj; simp at hj
     · rw [if_neg e] at hk; rw [if_neg e'] at hj
       have := il hk; have := il hj
       rw [eo _ (by omega) (by omega), eo _ (by omega) (by omega)]
       exact h.apart k j u y hkj hk hj

/-- The last slots, that are free, given back. -/
theorem PageIs.cut {f : Nat → Nat} {S : List (Option Ver)} (h : PageIs f S) {n : Nat} (hn : n ≤ S.length) :
   PageIs (setF (spl f (4 + 4 * n) (zeros (4 * (S.length - n)))) n (w16 f 2)) (S.take n) := by
 have hlo := h.lo
 have hhi := h.hi
 have il : ∀ {k : Nat} {x : Option Ver}, (S.take n)[k]? = some x → k < n ∧ S[k]? = some x := fun {k x} hx => by
  rw [List.getElem?_take] at hx
  split at hx
  · exact ⟨by assumption, hx⟩
  · simp at hx
 have hl : (S.take n).length = n := by simp; omega
 have e2 : w16 (setF (spl f (4 + 4 * n) (zeros (4 * (S.length - n)))) n (w16 f 2)) 2 = w16 f 2 := setF_st (by omega)
 have eo : ∀ o, 4 ≤ o → o + 2 ≤ 4 + 4 * n → w16 (setF (spl f (4 + 4 * n) (zeros (4 * (S.length - n)))) n (w16 f 2)) o = w16 f o := fun o h1 h2 => by
  rw [w16_setF h1, w16_spl_out (by omega)]
 refine ⟨by rw [hl]; exact setF_cnt (by omega), by rw [hl, e2]; omega, by rw [e2]; exact hhi, fun k hk => ?_, fun k u hk => ?_, fun k j u y hkj hk hj => ?_⟩
 · obtain ⟨h1, h2⟩ := il hk
   rw [eo _ (by omega) (by omega)]; exact h.no k h2
 · obtain ⟨h1, h2⟩ := il hk
   obtain ⟨k1, k2, k3, k4, k5⟩ := h.yes k u h2
   rw [eo _ (by omega) (by omega), e2, eo _ (by omega) (by omega)]
   exact ⟨k1, k2, k3, k4, by rw [rd_setF (by omega), rd_spl_out (by simp; omega)]; exact k5⟩
 · obtain ⟨h1, h2⟩ := il hk
   obtain ⟨h3, h4⟩ := il hj
   rw [eo _ (by omega) (by omega), eo _ (by omega) (by omega)]
   exact h.apart k j u y hkj h2 h4

/-- How many bytes versions have. -/
def used : List (Option Ver) → Nat
 | [] => 0
 | none :: l => used l
 | some v :: l => 30 + v.data.length + used l
theorem used_append : ∀ (a b : List (Option Ver)), used (a ++ b) = used a + used b
 | [], b => by simp [used]
 | none :: a, b => by simp [used, used_append a b]
 | some v :: a, b => by simp [used, used_append a b]; omega
theorem used_take (S : List (Option Ver)) {i : Nat} {x : Option Ver} (h : S[i]? = some x) : used (S.take (i + 1)) = used (S.take i) + used [x] := by
 have hi := (List.getElem?_eq_some_iff.1 h).1
 rw [List.take_succ_eq_append_getElem hi, used_append]
 have : S[i] = x := by rw [List.getElem?_eq_getElem hi] at h; exact Option.some.inj h
 rw [this]
theorem used_take_le (S : List (Option Ver)) (i : Nat) : used (S.take i) ≤ used S := by
 have := used_append (S.take i) (S.drop i); rw [List.take_append_drop] at this; omega

/-- Versions moved to the end: the first i. -/
structure Mv (S : List (Option Ver)) (i at_ : Nat) (g : Nat → Nat) : Prop where
 cnt : w16 g 0 = S.length
 sum : at_ + used (S.take i) = 512
 no : ∀ k, S[k]? = some none → w16 g (4 + 4 * k + 2) = 0
 yes : ∀ k v, k < i → S[k]? = some (some v) → w16 g (4 + 4 * k + 2) = 30 + v.data.length ∧ at_ ≤ w16 g (4 + 4 * k) ∧ w16 g (4 + 4 * k) + (30 + v.data.length) ≤ 512 ∧ rd g (w16 g (4 + 4 * k)) (30 + v.data.length) = packV v
 apart : ∀ k j v u, k < i → j < i → k ≠ j → S[k]? = some (some v) → S[j]? = some (some u) → w16 g (4 + 4 * k) + (30 + v.data.length) ≤ w16 g (4 + 4 * j) ∨ w16 g (4 + 4 * j) + (30 + u.data.length) ≤ w16 g (4 + 4 * k)

theorem Mv.start {f : Nat → Nat} {S : List (Option Ver)} (h : PageIs f S) (n : Nat) : Mv S 0 512 (spl f (4 + 4 * S.length) (zeros n)) :=
 ⟨by rw [w16_spl_out (by omega)]; exact h.cnt, by simp [used], fun k hk => by
   have := (List.getElem?_eq_some_iff.1 hk).1
   rw [w16_spl_out (by omega)]; exact h.no k hk, fun k v hk => by omega, fun k j v u hk => by omega⟩

theorem Mv.skip {S : List (Option Ver)} {i a : Nat} {g : Nat → Nat} (h : Mv S i a g) (hi : S[i]? = some none) : Mv S (i + 1) a g := by
 have hne : ∀ k v, S[k]? = some (some v) → k < i + 1 → k < i := fun k v hk hl => by
  by_cases e : k = i
  · subst e; rw [hi] at hk; simp at hk
  · omega
 exact ⟨h.cnt, by rw [used_take S hi]; exact h.sum, h.no, fun k v hk hv => h.yes k v (hne k v hv hk) hv, fun k j v u hk hj hkj hv hu => h.apart k j v u (hne k v hv hk) (hne j u hu hj) hkj hv hu⟩

theorem Mv.step {S : List (Option Ver)} {i a : Nat} {g : Nat → Nat} (h : Mv S i a g) {v : Ver} (hi : S[i]? = some (some v)) (hs : 4 + 4 * S.length + used S ≤ 512) (hd : v.data.length ≤ 200) :
   4 + 4 * S.length + (30 + v.data.length) ≤ a ∧ Mv S (i + 1) (a - (30 + v.data.length)) (ptF (spl g (a - (30 + v.data.length)) (packV v)) i (a - (30 + v.data.length)) (30 + v.data.length)) := by
 have hsum := h.sum
 have hle := used_take_le S (i + 1)
 rw [used_take S hi] at hle
 have hu1 : used [some v] = 30 + v.data.length := by simp [used]
 rw [hu1] at hle
 have il : ∀ {k : Nat} {x : Option Ver}, S[k]? = some x → k < S.length := fun hx => (List.getElem?_eq_some_iff.1 hx).1
 have hil := il hi
 have hge : 4 + 4 * S.length + (30 + v.data.length) ≤ a := by omega
 refine ⟨hge, ?_⟩
 have hp : (packV v).length = 30 + v.data.length := packV_length v
 generalize hA : a - (30 + v.data.length) = A
 have eo : ∀ o, o + 2 ≤ 4 + 4 * S.length → (o + 2 ≤ 4 + 4 * i ∨ 8 + 4 * i ≤ o) → w16 (ptF (spl g A (packV v)) i A (30 + v.data.length)) o = w16 g o := fun o ho h1 => by
  rw [w16_ptF h1, w16_spl_out (by omega)]
 have ei : w16 (ptF (spl g A (packV v)) i A (30 + v.data.length)) (4 + 4 * i) = A := ptF_at (by omega)
 refine ⟨by rw [eo _ (by omega) (by omega)]; exact h.cnt, by rw [used_take S hi, hu1]; omega, fun k hk => ?_, fun k u hk hu => ?_, fun k j u y hk hj hkj hu hy => ?_⟩
 · have := il hk
   have hki : k ≠ i := fun e => by subst e; rw [hi] at hk; simp at hk
   rw [eo _ (by omega) (by omega)]; exact h.no k hk
 · by_cases e : k = i
   · subst e
     rw [hi] at hu
     simp only [Option.some.injEq] at hu
     subst hu
     refine ⟨ptF_sz (by omega), by rw [ei]; exact Nat.le_refl _, by rw [ei]; omega, ?_⟩
     rw [ei, rd_ptF (by omega), ← hp]; exact rd_spl _ _ _
   · have := il hu
     obtain ⟨k1, k2, k3, k4⟩ := h.yes k u (by omega) hu
     rw [eo _ (by omega) (by omega), eo _ (by omega) (by omega)]
     exact ⟨k1, by omega, k3, by rw [rd_ptF (by omega), rd_spl_out (by omega)]; exact k4⟩
 · have hkl := il hu
   have hjl := il hy
   by_cases e : k = i
   · subst e
     obtain ⟨k1, k2, k3, k4⟩ := h.yes j y (by omega) hy
     rw [hi] at hu
     simp only [Option.some.injEq] at hu
     subst hu
     rw [ei, eo _ (by omega) (by omega)]; omega
   · obtain ⟨k1, k2, k3, k4⟩ := h.yes k u (by omega) hu
     by_cases e' : j = i
     · subst e'
       rw [hi] at hy
       simp only [Option.some.injEq] at hy
       subst hy
       rw [ei, eo _ (by omega) (by omega)]; omega
     · rw [eo _ (by omega) (by omega), eo _ (by omega) (by omega)]
       exact h.apart k j u y (by omega) (by omega) hkj hu hy

theorem Mv.done {f : Nat → Nat} {S : List (Option Ver)} (h0 : PageIs f S) {a : Nat} {g : Nat → Nat} (h : Mv S S.length a g) (hs : 4 + 4 * S.length + used S ≤ 512) : PageIs (setF g S.length a) S ∧ w16 (setF g S.length a) 2 = 512 - used S := by
 have hsum := h.sum
 rw [List.take_length] at hsum
 have hl := h0.len
 have il : ∀ {k : Nat} {x : Option Ver}, S[k]? = some x → k < S.length := fun hx => (List.getElem?_eq_some_iff.1 hx).1
 have e2 : w16 (setF g S.length a) 2 = a := setF_st (by omega)
 refine ⟨⟨setF_cnt (by omega), by rw [e2]; omega, by rw [e2]; omega, fun k hk => by rw [w16_setF (by omega)]; exact h.no k hk, fun k v hk => ?_, fun k j v u hkj hk hj => ?_⟩, by rw [e2]; omega⟩
 · obtain ⟨k1, k2, k3, k4⟩ := h.yes k v (il hk) hk
   rw [w16_setF (by omega), e2, w16_setF (by omega)]
   exact ⟨(h0.yes k v hk).1, k1, k2, k3, by rw [rd_setF (by omega)]; exact k4⟩
 · rw [w16_setF (by omega), w16_setF (by omega)]
   exact h.apart k j v u (il hk) (il hj) hkj hk hj

/-- How much one more may have. -/
def roomS (S : List (Option Ver)) : Int := max (478 - (4 * (S.length : Int) + (used S : Int)) - (if freeS S = S.length then 4 else 0)) (-1)
end Go.Proofs.YtnkjnclpakfgnaaGreatDoor
namespace Go.Proofs.YtnkjnclpakfgnaaGreatDoor
open Go.RowKit

theorem wrap_u64 (x : Int) : IntKind.u64.wrap x = x % 18446744073709551616 := by simp [IntKind.wrap, IntKind.signed, IntKind.bits]
theorem or_u64 (n b : Nat) (hb : b < 256) (hn : n < 72057594037927936) : bits .or .u64 ((n : Int) * 256) (b : Int) = ((b + 256 * n : Nat) : Int) := by
 have e := Nat.two_pow_add_eq_or_of_lt (i := 8) (b := b) (by omega) n
 have ea : BitVec.ofInt 64 ((n : Int) * 256) = BitVec.ofNat 64 (2 ^ 8 * n) := by rw [← BitVec.ofInt_natCast]; congr 1; omega
 have eb : BitVec.ofInt 64 (b : Int) = BitVec.ofNat 64 b := BitVec.ofInt_natCast ..
 show IntKind.u64.wrap ((BitVec.ofInt 64 _ ||| BitVec.ofInt 64 _ : BitVec 64).toNat : Int) = _
 rw [ea, eb, BitVec.toNat_or, BitVec.toNat_ofNat, BitVec.toNat_ofNat, Nat.mod_eq_of_lt (by omega), Nat.mod_eq_of_lt (by omega), ← e, wrap_u64]
 omega

theorem flp {P : Program} {F : FuncId} {args : Array Value} {w : World} {v : Ending} (h : Calls P F args w fun e w' => e = v ∧ w' = w) : Calls P F args w fun e w' => e = v ∧ w = w' := h.mono fun _ _ h => ⟨h.1, h.2.symm⟩

def blkA (n : Nat) (f : Nat → Nat) : Array Value := ((List.range n).map fun i => Value.int .u8 (f i : Int)).toArray
theorem blkA_get (n : Nat) (f : Nat → Nat) (i : Nat) (h : i < n) : (blkA n f)[i]? = some (.int .u8 (f i : Int)) := by simp [blkA, h]
theorem blkA_size (n : Nat) (f : Nat → Nat) : (blkA n f).size = n := by simp [blkA]
theorem blkA_congr {n : Nat} {f g : Nat → Nat} (h : ∀ i, i < n → f i = g i) : blkA n f = blkA n g := by
 unfold blkA; congr 1; exact List.map_congr_left fun i hi => by rw [h i (List.mem_range.1 hi)]
theorem blkA_set (n : Nat) (f : Nat → Nat) (i x : Nat) : (blkA n f).setIfInBounds i (.int .u8 (x : Int)) = blkA n (fun k => if k = i then x else f k) := by
 apply Array.ext_getElem?
 intro k
 rw [Array.getElem?_setIfInBounds, blkA_size]
 by_cases hk : k < n
 · rw [blkA_get _ _ _ hk, blkA_get _ _ _ hk]
   by_cases e : i = k
   · subst e; simp [hk]
   · rw [if_neg e, if_neg (fun x => e x.symm)]
 · rw [Array.getElem?_eq_none (by rw [blkA_size]; omega), Array.getElem?_eq_none (by rw [blkA_size]; omega)]
   split <;> simp; omega

/-- n bytes at block b, of type T. -/
def By (w : World) (b T n : Nat) (f : Nat → Nat) : Prop := (∀ i, f i < 256) ∧ w.heap[b]? = some (.cells (blkA n f) T (0, 0))
section
variable {w w' : World} {b T n : Nat} {f : Nat → Nat}
theorem By.cell (h : By w b T n f) (i : Nat) (hi : i < n) : w.cell? ⟨b, i, none⟩ = some (.int .u8 (f i : Int)) := cell_of_block h.2 (blkA_get _ _ _ hi)
theorem By.free (h : By w b T n f) (i : Nat) : w.frozen? ⟨b, i, none⟩ = false := free_of_block h.2
theorem By.lt (h : By w b T n f) : b < w.heap.size := lt_of_block h.2
theorem By.upd {S : Nat → Prop} (h : By w b T n f) (u : Upd S w w') (hs : ¬ S b) : By w' b T n f := ⟨h.1, u.heap h.2 hs⟩
theorem By.same (h : By w b T n f) (u : Below w.heap.size w w') : By w' b T n f := h.upd (S := fun _ => False) (Upd.same u) id
theorem By.drewN (h : By w b T n f) (k : Nat) : By (w.drewN k) b T n f := ⟨h.1, h.2⟩
theorem By.drew (h : By w b T n f) : By w.drew b T n f := ⟨h.1, h.2⟩
theorem By.set (h : By w b T n f) (i x : Nat) (hx : x < 256) : By (w.setCell ⟨b, i, none⟩ (.int .u8 (x : Int))) b T n (fun k => if k = i then x else f k) :=
 ⟨fun k => by dsimp only; split; exact hx; exact h.1 k, by rw [block_setCell h.2, blkA_set]⟩
theorem By.congr {g : Nat → Nat} (h : By w b T n f) (hg : ∀ i, i < n → g i = f i) (hl : ∀ i, g i < 256) : By w b T n g := ⟨hl, by rw [blkA_congr hg]; exact h.2⟩

theorem num_at (h : By w b T n f) (a k cap : Nat) (hk : k ≤ 8) (ha : a + k ≤ n) :
    Calls Tryz.prog 210 #[.slice (some ⟨b, a, none⟩) k cap] w fun e w' => e = .returned (.int .u64 (numL (rd f a k) : Int)) ∧ w' = w := by
 have hb : ∀ i, i < k → w.cell? ⟨b, a + i, none⟩ = some (.int .u8 (f (a + i) : Int)) := fun i hi => h.cell _ (by omega)
 have hlt := h.1
 go_enter Tryz.func210, Tryz.ntmps210
 go_wp2_with fail
 go_loop [3, 4] (fun nv iv => ∃ j : Nat, j ≤ k ∧ iv = .int .i64 ((j : Int) - 1) ∧ nv = .int .u64 (numL (rd f (a + j) (k - j)) : Int)) (fun _ iv => ((intOf iv) + 1).toNat)
 case atStart => exact ⟨k, Nat.le_refl _, by go_num, by simp [numL, rd]⟩
 case round =>
  obtain ⟨j, hj, rfl, rfl⟩ := hrel
  cases j with
  | zero =>
   go_wp2_with fail
   go_ret
   exact ⟨by simp, rfl⟩
  | succ j =>
   have hc := hb j (by omega)
   have hd : rd f (a + j) (k - j) = f (a + j) :: rd f (a + (j + 1)) (k - (j + 1)) := by
    rw [show k - j = 1 + (k - (j + 1)) by omega, rd_append]; rfl
   have h1 := numL_lt (l := rd f (a + (j + 1)) (k - (j + 1))) (fun x hx => by simp [rd] at hx; obtain ⟨_, _, rfl⟩ := hx; exact hlt _)
   have h2 : (256 : Nat) ^ (rd f (a + (j + 1)) (k - (j + 1))).length ≤ 256 ^ 7 := Nat.pow_le_pow_right (by decide) (by simp; omega)
   have h3 := hlt (a + j)
   have ho := or_u64 (numL (rd f (a + (j + 1)) (k - (j + 1)))) (f (a + j)) h3 (by omega)
   have H := Lib.hid ho
   have HD := Lib.hid hd
   clear ho hd hlt h
   go_wp2_with fail
   exact ⟨⟨j, by omega, by go_num, by rw [H.out, HD.out]; rfl⟩, by simp [intOf]⟩

theorem shr_byte (n i : Nat) : ((n : Int) / 2 ^ (8 * i)) % 256 = ((n / 256 ^ i % 256 : Nat) : Int) := by
 have e : (2 : Int) ^ (8 * i) = ((256 ^ i : Nat) : Int) := by rw [Int.pow_mul]; simp
 rw [e]
 simp

theorem spl_snoc (f : Nat → Nat) (a k m i : Nat) : i < k → (fun q => if q = a + i then m / 256 ^ i % 256 else spl f a (leB i m) q) = spl f a (leB (i + 1) m) := by
 intro _
 funext q
 by_cases e : q = a + i
 · subst e
   rw [if_pos rfl, spl_in (by simp)]; simp [leB]
 · rw [if_neg e]
   unfold spl
   simp only [leB_length]
   by_cases hq : a ≤ q ∧ q < a + i
   · rw [if_pos hq, if_pos ⟨hq.1, by omega⟩]
     have h1 : q - a < i := by omega
     simp [leB, List.getD_eq_getElem?_getD, h1, show q - a < i + 1 by omega]
   · rw [if_neg hq, if_neg (by omega)]

theorem spl_nil (f : Nat → Nat) (a : Nat) : spl f a [] = f := by funext q; unfold spl; rw [if_neg (by simp)]

theorem put_at (h : By w b T n f) (a k cap m : Nat) (hk : k ≤ 8) (ha : a + k ≤ n) (hn : n ≤ 65536) (_hm : m < 18446744073709551616) :
    Calls Tryz.prog 302 #[.slice (some ⟨b, a, none⟩) k cap, .int .u64 (m : Int)] w fun e w' => e = .returned (.tuple #[]) ∧ By w' b T n (spl f a (leB k m)) ∧ Upd (fun q => q = b) w w' := by
 go_enter Tryz.func302, Tryz.ntmps302
 go_wp2_with fail
 go_loopw [7] (fun iv wr => ∃ i : Nat, i ≤ k ∧ iv = .int .i64 (i : Int) ∧ By wr b T n (spl f a (leB i m)) ∧ Upd (fun q => q = b) w wr) (fun iv _ => k - (intOf iv).toNat)
 case atStart => exact ⟨0, Nat.zero_le _, rfl, by rw [show leB 0 m = [] from rfl, spl_nil]; exact h, Upd.refl _ _⟩
 case round =>
  obtain ⟨i, hi, rfl, hB, hU⟩ := hrel
  by_cases hlt : i < k
  · have hc := hB.cell (a + i) (by omega)
    have hf := hB.free (a + i)
    have hs := shr_byte m i
    have HS := Lib.hid hs
    clear hs
    go_wp2_with fail
    exact ⟨⟨i + 1, by omega, by go_num, by rw [HS.out, ← spl_snoc f a k m i hlt]; exact hB.set (a + i) _ (Nat.mod_lt _ (by decide)), hU.setCell _ (fun _ => rfl)⟩, by simp [intOf]; omega⟩
  · obtain rfl : i = k := by omega
    go_wp2_with fail
    go_end0
    exact ⟨rfl, hB, hU⟩
end
end Go.Proofs.YtnkjnclpakfgnaaGreatDoor
namespace Go.Proofs.YtnkjnclpakfgnaaGreatDoor
open Go.RowKit
set_option maxRecDepth 100000

theorem len393 : Tryz.prog.arrayLen 393 = 512 := by kernel_rfl
theorem size393 (w : World) : (sizeOf (Tryz.prog.elem 393)).run Tryz.prog w = .ok 1 w := by kernel_rfl
theorem und393 : Tryz.prog.underlying 393 = some (.array (Tryz.prog.arrayLen 393) (Tryz.prog.elem 393)) := by kernel_rfl
theorem sl_lo (p l : Nat) (x : Int) (hx : x = l) (hl : l < 512) (w : World) :
    (Instr.sliceAt 393 (.pointer (some ⟨p, 0, none⟩)) (some (.int .i64 x)) none none).run Tryz.prog w = .ok (.slice (some ⟨p, l, none⟩) (512 - l) (512 - l)) w := by
 subst hx
 rw [run_sliceAt_array_l w 393 ⟨p, 0, none⟩ und393 .i64 l (by omega) (by rw [len393]; omega), size393]
 simp only [Result.andThen, slicedAt, len393, Int.toNat_natCast]
 rw [if_neg (by omega)]
 simp [Addr.add]; omega
theorem sl_lh (p l h : Nat) (x y : Int) (hx : x = l) (hy : y = h) (hl : l < 512) (hlh : l ≤ h) (hh : h ≤ 512) (w : World) :
    (Instr.sliceAt 393 (.pointer (some ⟨p, 0, none⟩)) (some (.int .i64 x)) (some (.int .i64 y)) none).run Tryz.prog w = .ok (.slice (some ⟨p, l, none⟩) (h - l) (512 - l)) w := by
 subst hx; subst hy
 rw [run_sliceAt_array_lh w 393 ⟨p, 0, none⟩ und393 .i64 .i64 l h (by omega) (by omega) (by rw [len393]; omega), size393]
 simp only [Result.andThen, slicedAt, len393, Int.toNat_natCast]
 rw [if_neg (by omega)]
 simp [Addr.add]; omega

def Pg (w : World) (p : Nat) (f : Nat → Nat) : Prop := By w p 395 512 f
theorem numL2 (f : Nat → Nat) (o : Nat) : numL (rd f o 2) = w16 f o := by simp [rd, w16, numL, List.range, List.range.loop]
section
variable {w w' : World} {p : Nat} {f : Nat → Nat} {S : List (Option Ver)}
theorem Pg.drewN (h : Pg w p f) (k : Nat) : Pg (w.drewN k) p f := By.drewN h k
theorem Pg.lt16 (h : Pg w p f) (o : Nat) : w16 f o < 65536 := w16_lt h.1 o
theorem num16 (h : Pg w p f) (o cap : Nat) (ho : o + 2 ≤ 512) :
    Calls Tryz.prog 210 #[.slice (some ⟨p, o, none⟩) 2 cap] w fun e w' => e = .returned (.int .u64 (w16 f o : Int)) ∧ w' = w := by
 have := num_at h o 2 cap (by omega) (by omega)
 rw [numL2] at this; exact this

theorem count_at (h : Pg w p f) :
    Calls Tryz.prog 161 #[.pointer (some ⟨p, 0, none⟩)] w fun e w' => e = .returned (.int .i64 (w16 f 0 : Int)) ∧ w' = w := by
 have := h.lt16 0
 have H := Lib.hid h
 go_enter Tryz.func161, Tryz.ntmps161
 go_wp2_with (go_at_call 210; (with_reducible refine (num16 H.out 0 _ (by decide)).mono ?_); rintro e w1 ⟨rfl, rfl⟩)
 go_ret
 exact ⟨rfl, rfl⟩

theorem start_at (h : Pg w p f) :
    Calls Tryz.prog 227 #[.pointer (some ⟨p, 0, none⟩)] w fun e w' => e = .returned (.int .i64 (w16 f 2 : Int)) ∧ w' = w := by
 have := h.lt16 2
 have H := Lib.hid h
 go_enter Tryz.func227, Tryz.ntmps227
 go_wp2_with (go_at_call 210; (with_reducible refine (num16 H.out 2 _ (by decide)).mono ?_); rintro e w1 ⟨rfl, rfl⟩)
 go_ret
 exact ⟨rfl, rfl⟩

theorem set_page (h : Pg w p f) (c s : Nat) (hc : c < 65536) (hs : s < 65536) :
    Calls Tryz.prog 226 #[.pointer (some ⟨p, 0, none⟩), .int .i64 (c : Int), .int .i64 (s : Int)] w fun e w' => e = .returned (.tuple #[]) ∧ Pg w' p (setF f c s) ∧ Upd (fun q => q = p) w w' := by
 have H := Lib.hid h
 go_enter Tryz.func226, Tryz.ntmps226
 go_wp2_with fail
 refine (put_at H.out 0 2 _ c (by decide) (by decide) (by decide) (by omega)).mono ?_
 rintro e w1 ⟨rfl, h1, u1⟩
 have H1 := Lib.hid h1; clear h1
 go_wp2_with fail
 refine (put_at H1.out 2 2 _ s (by decide) (by decide) (by decide) (by omega)).mono ?_
 rintro e w2 ⟨rfl, h2, u2⟩
 go_wp2_with fail
 go_end0
 exact ⟨rfl, h2, u1.trans u2⟩

/-- Where slot i's version lies, and how long it is. -/
theorem ptr_at (h : Pg w p f) (i : Nat) (hi : 8 + 4 * i ≤ 512) :
    Calls Tryz.prog 209 #[.pointer (some ⟨p, 0, none⟩), .int .i64 (i : Int)] w fun e w' => e = .returned (.tuple #[.int .i64 (w16 f (4 + 4 * i) : Int), .int .i64 (w16 f (4 + 4 * i + 2) : Int)]) ∧ ∃ n, w' = w.drewN n := by
 have := h.lt16 (4 + 4 * i)
 have := h.lt16 (4 + 4 * i + 2)
 have H := Lib.hid h
 have hsl := sl_lo p (4 + 4 * i) (4 + 4 * (i : Int)) (by omega) (by omega)
 obtain ⟨C, hC, hC2, hC4⟩ : ∃ C : Nat, 512 - (4 + 4 * i) = C ∧ (2 : Int) ≤ C ∧ (4 : Int) ≤ C := ⟨_, rfl, by omega, by omega⟩
 rw [hC] at hsl; clear hC
 go_enter Tryz.func209, Tryz.ntmps209
 go_wp2_with fail
 go_quiet ((first | (go_at_call 210; with_reducible exact Calls.quiet_of_same (num16 (H.out.drewN _) (4 + 4 * i) _ (by omega))) | (go_at_call 210; with_reducible exact Calls.quiet_of_same (num16 (H.out.drewN _) (4 + 4 * i + 2) _ (by omega)))))
 go_wp2_with fail
 go_ret2
 exact ⟨rfl, _, rfl⟩

theorem point_at (h : Pg w p f) (i a n : Nat) (hi : 8 + 4 * i ≤ 512) (ha : a < 65536) (hn : n < 65536) :
    Calls Tryz.prog 225 #[.pointer (some ⟨p, 0, none⟩), .int .i64 (i : Int), .int .i64 (a : Int), .int .i64 (n : Int)] w fun e w' => e = .returned (.tuple #[]) ∧ Pg w' p (ptF f i a n) ∧ Upd (fun q => q = p) w w' := by
 have H := Lib.hid h
 have hsl := sl_lo p (4 + 4 * i) (4 + 4 * (i : Int)) (by omega) (by omega)
 go_enter Tryz.func225, Tryz.ntmps225
 go_wp2_with fail
 refine (put_at H.out (4 + 4 * i) 2 _ a (by decide) (by omega) (by decide) (by omega)).mono ?_
 rintro e w1 ⟨rfl, h1, u1⟩
 have H1 := Lib.hid h1; clear h1
 go_wp2_with fail
 refine (put_at H1.out (4 + 4 * i + 2) 2 _ n (by decide) (by omega) (by decide) (by omega)).mono ?_
 rintro e w2 ⟨rfl, h2, u2⟩
 go_wp2_with fail
 go_end0
 exact ⟨rfl, h2, u1.trans u2⟩

/-- What bytesOf tells of a slot: nil, or the version's bytes where they lie. -/
def verV (f : Nat → Nat) (p i : Nat) : Option Ver → Value
 | some v => .slice (some ⟨p, w16 f (4 + 4 * i), none⟩) (30 + v.data.length) (512 - w16 f (4 + 4 * i))
 | none => .slice none 0 0

theorem bytes_out (h : Pg w p f) (hS : PageIs f S) (i : Int) (hi : i < 0 ∨ S.length ≤ i) (hm : -9223372036854775808 ≤ i ∧ i ≤ 9223372036854775807) :
    Calls Tryz.prog 134 #[.pointer (some ⟨p, 0, none⟩), .int .i64 i] w fun e w' => e = .returned (.slice none 0 0) ∧ ∃ n, w' = w.drewN n := by
 have hc := hS.cnt
 have H := Lib.hid h
 have hcount := count_at h
 rw [hc] at hcount
 have HC := Lib.hid hcount
 clear hc hcount h
 rcases hi with hi | hi
 · have hd : decide (i < 0) = true := by simpa using hi
   go_enter Tryz.func134, Tryz.ntmps134
   go_wp2_with fail
   go_ret
   exact ⟨rfl, 0, rfl⟩
 · have hd : decide (i < 0) = false := by simp; omega
   have hd2 : decide ((S.length : Int) ≤ i) = true := by simpa using hi
   go_enter Tryz.func134, Tryz.ntmps134
   go_wp2_with (go_at_call 161; (with_reducible refine (HC.out).mono ?_); rintro e w1 ⟨rfl, rfl⟩)
   go_ret
   exact ⟨rfl, 0, rfl⟩

theorem bytes_in (h : Pg w p f) (hS : PageIs f S) (i : Nat) {x : Option Ver} (hx : S[i]? = some x) :
    Calls Tryz.prog 134 #[.pointer (some ⟨p, 0, none⟩), .int .i64 (i : Int)] w fun e w' => e = .returned (verV f p i x) ∧ ∃ n, w' = w.drewN n := by
 have hi := (List.getElem?_eq_some_iff.1 hx).1
 have hlen := hS.len
 have hlo := hS.lo
 have hhi := hS.hi
 have hcount := count_at h
 rw [hS.cnt] at hcount
 have HC := Lib.hid hcount
 have hd : decide ((i : Int) < 0) = false := by simp
 have hd2 : decide ((S.length : Int) ≤ (i : Int)) = false := by simp; omega
 have HP := Lib.hid (ptr_at h i (by omega))
 cases x with
 | none =>
  have h0 := hS.no i hx
  rw [h0] at HP
  clear hcount h hx h0
  go_enter Tryz.func134, Tryz.ntmps134
  go_wp2_with (first | (go_at_call 161; (with_reducible refine (HC.out).mono ?_); rintro e w1 ⟨rfl, rfl⟩) | (go_at_call 209; (with_reducible refine (HP.out).mono ?_); rintro e w1 ⟨rfl, n, rfl⟩))
  go_ret
  exact ⟨rfl, _, rfl⟩
 | some v =>
  obtain ⟨k1, k2, k3, k4, k5⟩ := hS.yes i v hx
  rw [k2] at HP
  have hz : ((30 + (v.data.length : Int)) == 0) = false := by rw [beq_eq_false_iff_ne]; omega
  have hsl := sl_lh p (w16 f (4 + 4 * i)) (w16 f (4 + 4 * i) + (30 + v.data.length)) (w16 f (4 + 4 * i)) ((w16 f (4 + 4 * i) : Int) + (30 + (v.data.length : Int))) rfl (by omega) (by omega) (by omega) (by omega)
  rw [show w16 f (4 + 4 * i) + (30 + v.data.length) - w16 f (4 + 4 * i) = 30 + v.data.length by omega] at hsl
  clear hcount h hx k1 k2 k5
  go_enter Tryz.func134, Tryz.ntmps134
  go_wp2_with (first | (go_at_call 161; (with_reducible refine (HC.out).mono ?_); rintro e w1 ⟨rfl, rfl⟩) | (go_at_call 209; (with_reducible refine (HP.out).mono ?_); rintro e w1 ⟨rfl, n, rfl⟩))
  go_ret
  exact ⟨rfl, _, rfl⟩
end
end Go.Proofs.YtnkjnclpakfgnaaGreatDoor
namespace Go.Proofs.YtnkjnclpakfgnaaGreatDoor
open Go.RowKit
set_option maxRecDepth 100000

theorem freeS_at {S : List (Option Ver)} {i : Nat} (h : S[i]? = some none) (hk : ∀ k, k < i → ∃ v, S[k]? = some (some v)) : freeS S = i := by
 have hi := (List.getElem?_eq_some_iff.1 h).1
 unfold freeS
 rw [List.findIdx_eq hi]
 refine ⟨by rw [List.getElem?_eq_getElem hi] at h; rw [Option.some.inj h]; rfl, fun j hj => ?_⟩
 obtain ⟨v, hv⟩ := hk j hj
 rw [List.getElem?_eq_getElem (by omega)] at hv; rw [Option.some.inj hv]; rfl
theorem freeS_end {S : List (Option Ver)} (hk : ∀ k, k < S.length → ∃ v, S[k]? = some (some v)) : freeS S = S.length := by
 unfold freeS
 rw [List.findIdx_eq_length]
 intro x hx
 obtain ⟨k, hk2, rfl⟩ := List.getElem_of_mem hx
 obtain ⟨v, hv⟩ := hk k hk2
 rw [List.getElem?_eq_getElem hk2] at hv; rw [Option.some.inj hv]; rfl
theorem freeS_le (S : List (Option Ver)) : freeS S ≤ S.length := List.findIdx_le_length
theorem freeS_free (S : List (Option Ver)) (v : Ver) : S[freeS S]? ≠ some (some v) := by
 intro h
 have hi := (List.getElem?_eq_some_iff.1 h).1
 have := List.findIdx_getElem (p := Option.isNone) (xs := S) (w := hi)
 rw [List.getElem?_eq_getElem hi] at h
 have e : S[List.findIdx Option.isNone S] = some v := Option.some.inj h
 rw [e] at this; cases this

theorem ret_i {k : IntKind} {a b : Int} (h : a = b) : Ending.returned (.int k a) = .returned (.int k b) := by rw [h]
theorem eql_nil (w : World) : (binOp .eql 23 (.slice none 0 0) (.slice none 0 0)).run Tryz.prog w = .ok (.bool true) w := by kernel_rfl
theorem eql_some (a : Addr) (n c : Nat) (w : World) : (binOp .eql 23 (.slice (some a) n c) (.slice none 0 0)).run Tryz.prog w = .ok (.bool false) w := by kernel_rfl
section
variable {w w' : World} {p : Nat} {f : Nat → Nat} {S : List (Option Ver)}
theorem pfree_at (h : Pg w p f) (hS : PageIs f S) :
    Calls Tryz.prog 303 #[.pointer (some ⟨p, 0, none⟩)] w fun e w' => e = .returned (.int .i64 (freeS S : Int)) ∧ ∃ n, w' = w.drewN n := by
 have hlen := hS.len
 have hcount : ∀ n, Calls Tryz.prog 161 #[.pointer (some ⟨p, 0, none⟩)] (w.drewN n) fun e w' => e = .returned (.int .i64 (S.length : Int)) ∧ w' = w.drewN n := fun n => by
  have := count_at (h.drewN n); rw [hS.cnt] at this; exact this
 have HC := Lib.hid hcount
 have hc0 : Calls Tryz.prog 161 #[.pointer (some ⟨p, 0, none⟩)] w fun e w' => e = .returned (.int .i64 (S.length : Int)) ∧ w' = w := hcount 0
 have HC0 := Lib.hid hc0
 have HB := Lib.hid fun (n i : Nat) (x : Option Ver) (hx : S[i]? = some x) => bytes_in (h.drewN n) hS i hx
 clear hcount hc0 h
 have heqn := eql_nil
 have heqs := eql_some
 go_enter Tryz.func303, Tryz.ntmps303
 go_wp2_with (go_at_call 161; (with_reducible refine (flp HC0.out).mono ?_); rintro e w1 ⟨rfl, rfl⟩)
 go_loopw [6] (fun iv wr => ∃ i : Nat, i ≤ S.length ∧ iv = .int .i64 (i : Int) ∧ (∃ n, wr = w.drewN n) ∧ ∀ k, k < i → ∃ v, S[k]? = some (some v)) (fun iv _ => S.length - (intOf iv).toNat)
 case atStart => exact ⟨0, Nat.zero_le _, rfl, ⟨0, rfl⟩, fun k hk => by omega⟩
 case round =>
  obtain ⟨i, hi, rfl, ⟨n, rfl⟩, hk⟩ := hrel
  have HK := Lib.hid hk; clear hk
  by_cases hlt : i < S.length
  · obtain ⟨x, hx⟩ : ∃ x, S[i]? = some x := ⟨S[i], List.getElem?_eq_getElem hlt⟩
    have hb := HB.out n i x hx
    have HX := Lib.hid hx; clear hx
    cases x with
    | none =>
     simp only [verV] at hb
     go_wp2_with (go_at_call 134; (with_reducible refine hb.mono ?_); rintro e w1 ⟨rfl, m, rfl⟩)
     go_wp2
     go_ret
     exact ⟨by rw [freeS_at HX.out HK.out]; rfl, n + m, rfl⟩
    | some v =>
     simp only [verV] at hb
     go_wp2_with (go_at_call 134; (with_reducible refine hb.mono ?_); rintro e w1 ⟨rfl, m, rfl⟩)
     go_wp2
     go_roundw
     case rel => exact ⟨i + 1, by omega, by go_num, ⟨n + m, rfl⟩, fun k hk => if e : k = i then ⟨v, by rw [e]; exact HX.out⟩ else HK.out k (by omega)⟩
     case measure => simp [intOf]; omega
  · obtain rfl : i = S.length := by omega
    go_wp2_with (go_at_call 161; (with_reducible refine (HC.out n).mono ?_); rintro e w1 ⟨rfl, rfl⟩)
    go_ret
    exact ⟨by rw [freeS_end HK.out]; rfl, n, rfl⟩

theorem used_le (hS : PageIs f S) (i : Nat) : used (S.take i) ≤ 230 * i := by
 induction i with
 | zero => simp [used]
 | succ i ih =>
  by_cases hi : i < S.length
  · obtain ⟨x, hx⟩ : ∃ x, S[i]? = some x := ⟨S[i], List.getElem?_eq_getElem hi⟩
    rw [used_take S hx]
    cases x with
    | none => simp [used]; omega
    | some v => have := (hS.yes i v hx).1.2.2.2.2.1; simp [used]; omega
  · rw [List.take_of_length_le (by omega)] at ih ⊢; omega

set_option maxHeartbeats 1000000 in
theorem room_at (h : Pg w p f) (hS : PageIs f S) :
    Calls Tryz.prog 229 #[.pointer (some ⟨p, 0, none⟩)] w fun e w' => e = .returned (.int .i64 (roomS S)) ∧ ∃ n, w' = w.drewN n := by
 have hlen := hS.len
 have hcount : ∀ n, Calls Tryz.prog 161 #[.pointer (some ⟨p, 0, none⟩)] (w.drewN n) fun e w' => e = .returned (.int .i64 (S.length : Int)) ∧ w' = w.drewN n := fun n => by
  have := count_at (h.drewN n); rw [hS.cnt] at this; exact this
 have HC := Lib.hid hcount
 have hc0 : Calls Tryz.prog 161 #[.pointer (some ⟨p, 0, none⟩)] w fun e w' => e = .returned (.int .i64 (S.length : Int)) ∧ w' = w := hcount 0
 have HC0 := Lib.hid hc0
 have HB := Lib.hid fun (n i : Nat) (x : Option Ver) (hx : S[i]? = some x) => bytes_in (h.drewN n) hS i hx
 have HF := Lib.hid fun (n : Nat) => pfree_at (h.drewN n) hS
 have HU := Lib.hid (used_le hS)
 have HD := Lib.hid fun (i : Nat) (v : Ver) (hv : S[i]? = some (some v)) => (hS.yes i v hv).1.2.2.2.2.1
 have hfl := freeS_le S
 obtain ⟨fr, hfr⟩ : ∃ fr : Nat, fr = freeS S := ⟨_, rfl⟩
 rw [← hfr] at HF hfl
 have HFR := Lib.hid hfr
 clear hcount hc0 h hfr
 go_enter Tryz.func229, Tryz.ntmps229
 go_wp2_with (go_at_call 161; (with_reducible refine (flp HC0.out).mono ?_); rintro e w1 ⟨rfl, rfl⟩)
 go_loopw [3, 9] (fun nv iv wr => ∃ i : Nat, i ≤ S.length ∧ iv = .int .i64 (i : Int) ∧ (∃ n, wr = w.drewN n) ∧ nv = .int .i64 (478 - (4 * (i : Int) + (used (S.take i) : Int)))) (fun _ iv _ => S.length - (intOf iv).toNat)
 case atStart => exact ⟨0, Nat.zero_le _, rfl, ⟨0, rfl⟩, rfl⟩
 case round =>
  obtain ⟨i, hi, rfl, ⟨n, rfl⟩, rfl⟩ := hrel
  have hu := HU.out i
  by_cases hlt : i < S.length
  · obtain ⟨x, hx⟩ : ∃ x, S[i]? = some x := ⟨S[i], List.getElem?_eq_getElem hlt⟩
    have hb := HB.out n i x hx
    have ht := used_take S hx
    have HT := Lib.hid ht
    have HX := Lib.hid hx; clear hx ht
    cases x with
    | none =>
     simp only [verV] at hb
     go_wp2_with (go_at_call 134; (with_reducible refine hb.mono ?_); rintro e w1 ⟨rfl, m, rfl⟩)
     go_roundw
     case rel => exact ⟨i + 1, by omega, by go_num, ⟨n + m, rfl⟩, by rw [HT.out]; simp only [used]; go_num⟩
     case measure => simp [intOf]; omega
    | some v =>
     have hv : v.data.length ≤ 200 := by
      exact HD.out i v HX.out
     simp only [verV] at hb
     go_wp2_with (go_at_call 134; (with_reducible refine hb.mono ?_); rintro e w1 ⟨rfl, m, rfl⟩)
     go_roundw
     case rel => exact ⟨i + 1, by omega, by go_num, ⟨n + m, rfl⟩, by rw [HT.out]; simp only [used]; go_num⟩
     case measure => simp [intOf]; omega
  · obtain rfl : i = S.length := by omega
    rw [List.take_length] at hu ⊢
    by_cases he : fr = S.length
    · have hd : ((fr : Int) == (S.length : Int)) = true := by rw [beq_iff_eq]; omega
      go_wp2_with (first | (go_at_call 303; (with_reducible refine (HF.out n).mono ?_); rintro e w1 ⟨rfl, m, rfl⟩) | (go_at_call 161; (with_reducible refine (HC.out _).mono ?_); rintro e w1 ⟨rfl, rfl⟩))
      all_goals (go_ret; exact ⟨ret_i (by unfold roomS; rw [← HFR.out, if_pos he]; omega), _, rfl⟩)
    · have hd : ((fr : Int) == (S.length : Int)) = false := by rw [beq_eq_false_iff_ne]; omega
      go_wp2_with (first | (go_at_call 303; (with_reducible refine (HF.out n).mono ?_); rintro e w1 ⟨rfl, m, rfl⟩) | (go_at_call 161; (with_reducible refine (HC.out _).mono ?_); rintro e w1 ⟨rfl, rfl⟩))
      all_goals (go_ret; exact ⟨ret_i (by unfold roomS; rw [← HFR.out, if_neg he]; omega), _, rfl⟩)
end
end Go.Proofs.YtnkjnclpakfgnaaGreatDoor
