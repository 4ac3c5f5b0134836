/-
  fold.Groups' look for a group: its function, slices.IndexFunc by it.
-/
import Derived.Test.YtifcdfilglbdgaaRow2
import Derived.Test.YtifcdfilglbdgaaGrp
namespace Go.Proofs.Ytifcdfilglbdgaa
open Go.RowKit

def natsV (l : List Nat) : List Value := l.map fun (i : Nat) => Value.int .i64 (i : Int)
/-- v is a slice of slices of the numbers G, each in a block of its own, from B on. -/
structure GrpRow (B : Nat) (w : World) (v : Value) (vals : List Value) (G : List (List Nat)) : Prop where
  row : w.ownsRow B 28 1 v G.length vals
  each : ∀ (j : Nat) (h : j < G.length) (u : Value), vals[j]? = some u → w.ownsRow B 3 1 u (G[j]).length (natsV G[j])
  apart : ∀ (i j : Nat) (u u' : Value), i ≠ j → vals[i]? = some u → vals[j]? = some u' → ∀ b, u.ownBlock = some b → u'.ownBlock ≠ some b
section
variable {B : Nat} {w w' : World} {v : Value} {vals : List Value} {G : List (List Nat)}
theorem GrpRow.len (h : GrpRow B w v vals G) : vals.length = G.length := by have := h.row.1; simpa using this
theorem GrpRow.same (h : GrpRow B w v vals G) (u : Below w.heap.size w w') : GrpRow B w' v vals G := ⟨row_same h.row u, fun j hj x hx => row_same (h.each j hj x hx) u, h.apart⟩
theorem GrpRow.nil (B : Nat) (w : World) : GrpRow B w (.slice none 0 0) [] [] := ⟨World.ownsRow_nil _ _ _ _, (fun j h => by cases h), (fun i j u u' _ h => by cases h)⟩

set_option maxHeartbeats 1000000 in
set_option maxRecDepth 100000 in
/-- fold.Groups' function: is a group's first key that one? -/
theorem gfun_at {q1 q5 gb gc gl x : Nat} {kv rv : Value} {R : List (List V)} {r : List V} (h1 : w.cell? ⟨q1, 0, none⟩ = some kv) (h5 : w.cell? ⟨q5, 0, none⟩ = some rv) (hk : KeysAt w kv R) (hr : RowAt w rv r)
    (hx : w.cell? ⟨gb, 0, none⟩ = some (.int .i64 (x : Int))) (hgl : 0 < gl) (hgl2 : gl ≤ 1000) (hxR : x < R.length) :
    Calls Try.prog 24 #[.slice (some ⟨gb, 0, none⟩) gl gc, .pointer (some ⟨q1, 0, none⟩), .pointer (some ⟨q5, 0, none⟩)] w fun e w' => e = .returned (.bool (sameR R[x] r)) ∧ Below w.heap.size w w' := by
  obtain ⟨ka, kc, rfl, hkl, hkc⟩ := hk
  obtain ⟨b, off, rx, hka, cx, hrx⟩ := hkc x hxR
  subst hka
  have hca : ∀ w', Below w.heap.size w w' → Calls Try.prog 25 #[rx, rv] w' fun e w'' => e = .returned (.bool (sameR R[x] r)) ∧ Below w'.heap.size w' w'' := fun w' hb => foldSame_at (hrx.same hb) (hr.same hb)
  obtain ⟨ra, rac, rfl⟩ : ∃ a c, rx = .slice a R[x].length c := by obtain ⟨a, c, e, _⟩ := hrx; exact ⟨a, c, e⟩
  obtain ⟨rb, rbc, rfl⟩ : ∃ a c, rv = .slice a r.length c := by obtain ⟨a, c, e, _⟩ := hr; exact ⟨a, c, e⟩
  obtain ⟨y, hy⟩ : ∃ y, y = sameR R[x] r := ⟨_, rfl⟩
  rw [← hy] at hca ⊢
  obtain ⟨la, hla⟩ : ∃ z, z = R[x].length := ⟨_, rfl⟩
  rw [← hla] at cx hca
  obtain ⟨lb, hlb⟩ : ∃ z, z = r.length := ⟨_, rfl⟩
  rw [← hlb] at h5 hca
  obtain ⟨n, hn⟩ : ∃ z, z = R.length := ⟨_, rfl⟩
  rw [← hn] at h1 hxR hkl
  have HCA := Lib.hid hca
  clear hca hy hla hlb hn hrx hr hkc
  have a1 : (0 : Int) ≤ (x : Int) := by omega
  have a2 : (x : Int) < (n : Int) := by omega
  have a3 : (0 : Int) < (gl : Int) := by omega
  have hd0 : Below w.heap.size w w.drew := below_drewN (n := 1)
  go_enter Try.func24, Try.ntmps24
  go_wp2_with fail
  go_region_held3 (fun z => z.cell? ⟨q1, 0, none⟩ = some (.slice (some ⟨b, off, none⟩) n kc) ∧ z.cell? ⟨q5, 0, none⟩ = some (.slice rb lb rbc) ∧ z.cell? ⟨gb, 0, none⟩ = some (.int .i64 (x : Int)) ∧ z.cell? ⟨b, off + x, none⟩ = some (.slice ra la rac))
    (first | (with_reducible exact ⟨keeper hd1 h1, keeper hd1 h5, keeper hd1 hx, keeper hd1 cx⟩) | (with_reducible exact ⟨keeper hd0 h1, keeper hd0 h5, keeper hd0 hx, keeper hd0 cx⟩))
    (first | (go_at_call 25; (with_reducible refine (HCA.out _ hd0).mono ?_); rintro e w1 ⟨rfl, hk1⟩; have hd1 := below_then hd0 hk1))
  go_wp2_with fail
  go_ret
  exact ⟨rfl, hd1⟩

set_option maxHeartbeats 1000000 in
set_option maxRecDepth 100000 in
/-- slices.IndexFunc by it. -/
theorem gidx_at {q1 q5 : Nat} {kv rv : Value} {R : List (List V)} {r : List V} (h1 : w.cell? ⟨q1, 0, none⟩ = some kv) (h5 : w.cell? ⟨q5, 0, none⟩ = some rv) (hk : KeysAt w kv R) (hr : RowAt w rv r)
    (hG : GrpRow B w v vals G) (hne : ∀ j (h : j < G.length), ∃ x l, G[j] = x :: l ∧ x < R.length ∧ l.length < 1000) (hgl : G.length ≤ 1000) :
    Calls Try.prog 23 #[v, .func (.func 24) #[] #[.pointer (some ⟨q1, 0, none⟩), .pointer (some ⟨q5, 0, none⟩)]] w fun e w' =>
      ((∃ j, ∃ h : j < G.length, e = .returned (.int .i64 (j : Int)) ∧ sameR (R.getD ((G[j]).headD 0) []) r = true) ∨ (e = .returned (.int .i64 (-1)) ∧ ∀ j (h : j < G.length), sameR (R.getD ((G[j]).headD 0) []) r = false)) ∧ Below w.heap.size w w' := by
  obtain ⟨a, cap, hv⟩ := ownsRow_slice hG.row
  have hlen := hG.len
  have hcl : ∀ j (hj : j < G.length), ∃ g u, a = some ⟨g, 0, none⟩ ∧ w.cell? ⟨g, j, none⟩ = some u ∧ ∃ gb gc x, u = .slice (some ⟨gb, 0, none⟩) (G[j]).length gc ∧ w.cell? ⟨gb, 0, none⟩ = some (.int .i64 (x : Nat)) ∧ x < R.length ∧ (G[j]).headD 0 = x ∧ 0 < (G[j]).length ∧ (G[j]).length ≤ 1000 := fun j hj => by
    have hj2 : j < vals.length := by omega
    have hu : vals[j]? = some vals[j] := List.getElem?_eq_getElem hj2
    obtain ⟨g, cap', e1, c, _⟩ := ownsRow_cell1 hG.row hu
    rw [hv] at e1
    simp only [Value.slice.injEq] at e1
    obtain ⟨rfl, _, rfl⟩ := e1
    obtain ⟨x, l, hx, hxR, hl⟩ := hne j hj
    have hrow := hG.each j hj _ hu
    rw [hx] at hrow ⊢
    obtain ⟨gb, gc, e2, c2, _⟩ := ownsRow_cell1 hrow (j := 0) (u := .int .i64 (x : Int)) rfl
    exact ⟨g, _, rfl, c, gb, gc, x, e2, c2, hxR, rfl, by simp, by simp; omega⟩
  have hca : ∀ w', Below w.heap.size w w' → ∀ gb gc gl x, w.cell? ⟨gb, 0, none⟩ = some (.int .i64 (x : Nat)) → 0 < gl → gl ≤ 1000 → ∀ hxR : x < R.length, Calls Try.prog 24 #[.slice (some ⟨gb, 0, none⟩) gl gc, .pointer (some ⟨q1, 0, none⟩), .pointer (some ⟨q5, 0, none⟩)] w' fun e w'' => e = .returned (.bool (sameR R[x] r)) ∧ Below w'.heap.size w' w'' :=
    fun w' hb gb gc gl x hx hg0 hg1 hxR => gfun_at (keeper hb h1) (keeper hb h5) (hk.same hb) (hr.same hb) (keeper hb hx) hg0 hg1 hxR
  subst hv
  have HCL := Lib.hid hcl; have HCA := Lib.hid hca
  clear hcl hca hG hne hk hr h1 h5 hlen
  go_enter Try.func23, Try.ntmps23
  go_wp2_with fail
  go_loopw [8] (fun i wr => ∃ n : Nat, n ≤ G.length ∧ i = .int .i64 n ∧ Hid (∀ j (h : j < G.length), j < n → sameR (R.getD ((G[j]).headD 0) []) r = false) ∧ Below w.heap.size w wr) (fun i _ => G.length - (intOf i).toNat)
  case atStart => exact ⟨0, Nat.zero_le _, rfl, (fun j h h0 => by omega), Below.refl _ _⟩
  case round =>
    obtain ⟨n, hn, rfl, HN, hB⟩ := hrel
    by_cases hlt : n < G.length
    · obtain ⟨g, u, ha, cu, gb, gc, x, hu, cx, hxR, hhd, hg0, hg1⟩ := HCL.out n hlt
      subst ha
      subst hu
      have hcall := HCA.out _ hB gb gc _ x cx hg0 hg1 hxR
      have hsp : ∀ b : Bool, sameR R[x] r = b → sameR (R.getD ((G[n]).headD 0) []) r = b := fun b e => by rw [hhd, List.getD_eq_getElem?_getD, List.getElem?_eq_getElem hxR]; exact e
      obtain ⟨s, hs⟩ : ∃ s, s = sameR R[x] r := ⟨_, rfl⟩
      rw [← hs] at hcall hsp
      have HCALL := Lib.hid hcall; have HSP := Lib.hid hsp
      have cu' := keeper hB cu
      obtain ⟨gl, hgl3⟩ : ∃ z, z = (G[n]).length := ⟨_, rfl⟩
      rw [← hgl3] at cu' HCALL
      have hi1 : (n : Int) < (G.length : Int) := by omega
      clear hcall hsp cu cx hxR hhd hg0 hg1 hs hgl3
      go_wp2_with fail
      refine HCALL.out.mono ?_
      rintro e w1 ⟨rfl, hk1⟩
      cases s with
      | true =>
        go_wp2_with fail
        go_ret
        exact ⟨.inl ⟨n, hlt, rfl, HSP.out true rfl⟩, below_then hB hk1⟩
      | false =>
        go_wp2_with fail
        go_roundw
        case rel => exact ⟨n + 1, by omega, by go_num, (fun j hj hjn => by
          by_cases e : j = n
          · subst e; exact HSP.out false rfl
          · exact HN.out j hj (by omega)), below_then hB hk1⟩
        case measure => simp [intOf]; omega
    · have hnl : n = G.length := by omega
      subst hnl
      go_wp2_with fail
      go_ret
      exact ⟨.inr ⟨rfl, fun j hj => HN.out j hj hj⟩, hB⟩
end
end Go.Proofs.Ytifcdfilglbdgaa
