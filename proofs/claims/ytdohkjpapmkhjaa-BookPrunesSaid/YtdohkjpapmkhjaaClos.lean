/-
  Prune's first closure: is a table dead? If so its number is put down.
-/
import Derived.Test.YtdohkjpapmkhjaaCreate
import Derived.Deep.RegionLaw
import Derived.Laws.AppendOwnNone
import Derived.Deep.RegionHeld3
namespace Go.Proofs.Ytdohkjpapmkhjaa
open Go.RowKit

/-- 'append' of cells to a row of one's own, at a step of a region that draws. -/
theorem step_append_src {P : Program} {ops : Array Oper} {o : Oper} {a : Act} {w : World} {K : Act → World → Prop} {Q : Exit → Act → World → Prop} {E : Prop}
    (hg : o.guard = none) (s x : Operand) (t : TypeId) (hop : o.op = Op.call { callee := Callee.builtin Builtin.append, args := #[s, x], argTypes := #[t, t] })
    (base : Nat) (e : TypeId) (i : TypeInfo) (z : Value) (size bytes : Nat) (ht : P.underlying t = some (.slice e)) (hi : P.info? e = some i) (hz : i.zero = some z)
    (hsize : i.size = size) (hby : i.bytes = bytes) (hzs : z.cells.size = size) (hsz : 0 < size)
    (v : Value) (n : Nat) (xs : List Value) (hs : a.eval s = v) (hown : w.ownsRow base e size v n xs)
    (ad : Addr) (m c : Nat) (news : List Value) (hx : a.eval x = .slice (some ad) m c) (hl : news.length = m * size) (hc : ∀ j y, news[j]? = some y → w.cell? (ad.add j) = some y)
    (h1 : ∀ u ∈ news, u.oneCell' = true) (h63 : n + m ≤ maxLen) (hbytes : (n + m) * bytes ≤ 140737488355328) (hbase : base ≤ w.heap.size)
    (hK : ∀ v' w', w'.ownsRow base e size v' (n + m) (xs ++ news) → Upd (fun b => v.ownBlock = some b) w w' → (∀ g, v'.ownBlock = some g → v.ownBlock = some g ∨ w.heap.size ≤ g) → K (a.put o.dst v') w') :
    if Region.wanted o (yielded ops a.tmps) = true then Oper.wp P o a w K Q else E := by
  have hw : Region.wanted o (yielded ops a.tmps) = true := by simp [Region.wanted, hg]
  rw [if_pos hw]
  obtain ⟨v', w', hr, h2, h3, h4⟩ := run_append_mine (P := P) (w := w) base t o.type e i z size bytes ht hi hz hsize hby hzs hsz v n xs hown ad m c news hl hc h1 h63 hbytes hbase
  unfold Oper.wp execOp
  simp only [hop, resolve, invoke, builtin, Sem.run_bind, Sem.run_pure, Result.andThen_ok, List.map_toArray, List.map_cons, List.map_nil, hs, hx, hr]
  exact hK v' w' h2 h3 h4
theorem one_u64 (x : Int) : ∀ u ∈ [Value.int .u64 x], u.oneCell' = true := by
  intro u hu; simp at hu; subst hu; rfl
theorem news_u64 {w : World} {b T : Nat} {x : Value} (h : w.heap[b]? = some (.cells #[x] T (0, 0))) : ∀ j u, [x][j]? = some u → w.cell? ((⟨b, 0, none⟩ : Addr).add j) = some u := fun j u hj => by
  match j, hj with
  | 0, hj => obtain rfl := Option.some.inj hj; exact cell_of_block h rfl

/-- The numbers put down so far, behind a variable. -/
def Gath (B : Nat) (w : World) (q : Nat) (ids : List Int) : Prop := ∃ sv, w.heap[q]? = some (.cells #[sv] 30 (0, 0)) ∧ w.ownsRow B 23 1 sv ids.length (ids.map (Value.int .u64))
section
variable {c : Nat → Nat} {k pl B q1 q2 q3 t : Nat} {w w' : World} {f hz : Int} {L : List Nat} {e : Ent} {ids : List Int}
theorem EntAt.upd {S : Nat → Prop} (h : EntAt w t e) (u : Upd S w w') (hs : ¬ S t) : EntAt w' t e := ⟨u.cell h.1 hs, u.cell h.2.1 hs, u.cell h.2.2.1 hs, u.cell h.2.2.2 hs⟩
theorem Gath.upd {S : Nat → Prop} (h : Gath B w q3 ids) (u : Upd S w w') (h1 : ¬ S q3) (h2 : ∀ b, B ≤ b → b < w.heap.size → ¬ S b) : Gath B w' q3 ids := by
  obtain ⟨sv, hb, ho⟩ := h
  exact ⟨sv, u.heap hb h1, ownsRow_upd ho u (fun b hb => h2 b (World.ownsRow.lt ho b hb).1 (World.ownsRow.lt ho b hb).2)⟩

set_option maxHeartbeats 4000000 in
set_option maxRecDepth 100000 in
/-- Prune's first closure. -/
theorem clos_tab (hl : LogAt c k w pl f L) (he : EntAt w t e) (h1 : w.cell? ⟨q1, 0, none⟩ = some (.pointer (some ⟨pl, 0, none⟩))) (h2 : w.cell? ⟨q2, 0, none⟩ = some (.int .u64 hz)) (hg : Gath B w q3 ids) (hn : ids.length ≤ 1000)
    (hq : q1 < B ∧ q2 < B ∧ q3 < B ∧ t < B ∧ q1 ≠ q3 ∧ q2 ≠ q3 ∧ t ≠ q3) (hB : B ≤ w.heap.size) (hcS : ∀ b, (b = q3 ∨ B ≤ b) → c b ≠ k) :
    Calls Try.prog 75 #[.pointer (some ⟨t, 0, none⟩), .pointer (some ⟨q1, 0, none⟩), .pointer (some ⟨q2, 0, none⟩), .pointer (some ⟨q3, 0, none⟩)] w fun r w' => r = .returned (.bool (deadB f L e.xmin e.xmax hz)) ∧
      Gath B w' q3 (if deadB f L e.xmin e.xmax hz = true then ids ++ [e.id] else ids) ∧ Upd (fun b => b = q3 ∨ B ≤ b) w w' := by
  obtain ⟨i0, hi, hz0, hz1, hz2⟩ := info_parts Try.info23
  have hd : ∀ w', Upd (fun b => b = q3 ∨ B ≤ b) w w' → Calls Try.prog 76 #[.pointer (some ⟨t, 0, none⟩), .pointer (some ⟨pl, 0, none⟩), .int .u64 hz] w' fun r w'' => r = .returned (.bool (deadB f L e.xmin e.xmax hz)) ∧ Below w'.heap.size w' w'' := fun w' u =>
    edead_at (hl.upd u (fun b hb hs => hcS b hs hb)) (he.upd u (by omega)) hz
  have h12 : ∀ w', Upd (fun b => b = q3 ∨ B ≤ b) w w' → w'.cell? ⟨q1, 0, none⟩ = some (.pointer (some ⟨pl, 0, none⟩)) ∧ w'.cell? ⟨q2, 0, none⟩ = some (.int .u64 hz) := fun w' u => ⟨u.cell h1 (by simp only; omega), u.cell h2 (by simp only; omega)⟩
  have hid : ∀ w', Upd (fun b => b = q3 ∨ B ≤ b) w w' → w'.cell? ⟨t, 0, none⟩ = some (.int .u64 e.id) := fun w' u => u.cell he.1 (by simp only; omega)
  obtain ⟨eid, heid⟩ : ∃ x, x = e.id := ⟨_, rfl⟩
  obtain ⟨v, hv⟩ : ∃ v, v = deadB f L e.xmin e.xmax hz := ⟨_, rfl⟩
  rw [← hv] at hd ⊢
  rw [← heid] at hid ⊢
  have HD := Lib.hid hd; have H12 := Lib.hid h12; have HID := Lib.hid hid; have HQ := Lib.hid hq; have HG := Lib.hid hg
  have u0 : Upd (fun b => b = q3 ∨ B ≤ b) w w.drew := Upd.of_drewN 1
  have HD0 := Lib.hid (hd _ u0)
  have hb0 : Below w.heap.size w w.drew := ⟨rfl, rfl, rfl, Nat.le_refl _, fun _ _ => rfl⟩
  clear hd h12 hid hl he h1 h2 hg hq hcS hv heid
  go_enter Try.func75, Try.ntmps75
  go_wp2_with fail
  go_region_held3 (fun z => z.cell? ⟨q1, 0, none⟩ = some (.pointer (some ⟨pl, 0, none⟩)) ∧ z.cell? ⟨q2, 0, none⟩ = some (.int .u64 hz))
    (first | (with_reducible exact H12.out _ u1) | (with_reducible exact H12.out _ u0))
    (first | (go_at_call 76; (with_reducible refine HD0.out.mono ?_); rintro r w1 ⟨rfl, hk1⟩; have u1 := u0.trans (Upd.same hk1); have hb1 := hb0.trans (hk1.mono hb0.size)))
  cases v with
  | false =>
    have u2 : Upd (fun b => b = q3 ∨ B ≤ b) w w1.drew := u1.trans (Upd.of_drewN 1)
    have HD1 := Lib.hid (HD.out _ u2)
    go_wp2_with fail
    go_region_held3 (fun z => z.cell? ⟨q1, 0, none⟩ = some (.pointer (some ⟨pl, 0, none⟩)) ∧ z.cell? ⟨q2, 0, none⟩ = some (.int .u64 hz))
      (first | (with_reducible exact H12.out _ u3) | (with_reducible exact H12.out _ u2))
      (first | (go_at_call 76; (with_reducible refine HD1.out.mono ?_); rintro r w2 ⟨rfl, hk2⟩; have u3 := u2.trans (Upd.same hk2)))
    have hb2 : Below w.heap.size w w2 := hb1.trans ((Below.trans (⟨rfl, rfl, rfl, Nat.le_refl _, fun _ _ => rfl⟩ : Below w1.heap.size w1 w1.drew) hk2).mono hb1.size)
    have HG2 := Lib.hid (HG.out.upd (S := fun _ => False) (Upd.same hb2) id (fun _ _ _ => id))
    go_wp2_with fail
    go_ret
    exact ⟨rfl, by simpa using HG2.out, u3⟩
  | true =>
    obtain ⟨sv, hblk, hown⟩ := HG.out.upd (S := fun _ => False) (Upd.same hb1) id (fun _ _ _ => id)
    have hsz1 := hb1.size
    have hqq := HQ.out
    have k3 : w1.cell? ⟨q3, 0, none⟩ = some sv := cell_of_block hblk rfl
    have kt : w1.cell? ⟨t, 0, none⟩ = some (.int .u64 eid) := HID.out w1 u1
    have hal : Below w1.heap.size w1 (w1.alloc (.cells #[.int .u64 eid] 23)) := (Below.refl _ _).alloc (Nat.le_refl _) _
    have k3a : (w1.alloc (.cells #[.int .u64 eid] 23)).cell? ⟨q3, 0, none⟩ = some sv := keeper hal k3
    have hblka : ((w1.alloc (.cells #[.int .u64 eid] 23)).drew).heap[q3]? = some (.cells #[sv] 30 (0, 0)) := block_alloc hblk _
    have hrow : Hid (((w1.alloc (.cells #[.int .u64 eid] 23)).drew).ownsRow B 23 1 sv ids.length (ids.map (Value.int .u64))) := World.ownsRow.alloc hown _
    have hnew : Hid (((w1.alloc (.cells #[.int .u64 eid] 23)).drew).heap[w1.heap.size]? = some (Obj.cells #[.int .u64 eid] 23)) := heap_new1 w1 _
    have hbase : B ≤ ((w1.alloc (.cells #[.int .u64 eid] 23)).drew).heap.size := by
      show B ≤ (w1.alloc (.cells #[.int .u64 eid] 23)).heap.size
      have := hal.size
      omega
    have HBASE := Lib.hid hbase
    have hne : ¬ sv.ownBlock = some q3 := fun e => by
      have := (World.ownsRow.lt hown _ e).1
      omega
    have HNE := Lib.hid hne; have HBLKA := Lib.hid hblka
    have ha : Upd (fun b => b = q3 ∨ B ≤ b) w ((w1.alloc (.cells #[.int .u64 eid] 23)).drew) := (u1.trans (Upd.same hal)).drew
    have HA := Lib.hid ha
    have HLT := Lib.hid (fun b (hb : sv.ownBlock = some b) => (World.ownsRow.lt hown b hb).1)
    clear hown hqq hne hblka hbase hblk
    go_wp2_with fail
    go_region_law (refine step_append_src rfl (.tmp 12) (.tmp 18) 30 rfl B 23 i0 (.int .u64 0) 1 8 Try.underlying30 hi hz0 hz1 hz2 rfl (by decide) sv ids.length (ids.map (Value.int .u64)) (by simp [Act.eval]) hrow.out ⟨w1.heap.size, 0, none⟩ 1 1 [.int .u64 eid] (by simp [Act.eval]) rfl (news_u64 hnew.out) (one_u64 _) (by unfold maxLen; omega) (by omega) HBASE.out ?_; intro v2 w5 hown5 hup5 hnew5; obtain ⟨va, vc, rfl⟩ := ownsRow_slice hown5; have k5 := hup5.cell (cell_of_block HBLKA.out rfl : ((w1.alloc (.cells #[.int .u64 eid] 23)).drew).cell? ⟨q3, 0, none⟩ = some sv) HNE.out; have f5 : w5.frozen? ⟨q3, 0, none⟩ = false := free_of_block (hup5.heap HBLKA.out HNE.out))
    all_goals
      have hu5 : Upd (fun b => b = q3 ∨ B ≤ b) w w5 := HA.out.trans (hup5.mono (fun b _ e => .inr (HLT.out b e)))
      have hus : Upd (fun b => b = q3) w5 (w5.setCell ⟨q3, 0, none⟩ (.slice va (ids.length + 1) vc)) := (Upd.refl _ w5).setCell (a := ⟨q3, 0, none⟩) _ (fun _ => rfl)
      have hu6 : Upd (fun b => b = q3 ∨ B ≤ b) w (w5.setCell ⟨q3, 0, none⟩ (.slice va (ids.length + 1) vc)) := hu5.trans (hus.mono (fun b _ e => .inl e))
      have hq3B := HQ.out.2.2.1
      have hg6 : Gath B (w5.setCell ⟨q3, 0, none⟩ (.slice va (ids.length + 1) vc)) q3 (ids ++ [eid]) := by
        refine ⟨.slice va (ids.length + 1) vc, by rw [block_setCell (hup5.heap HBLKA.out HNE.out)]; rfl, ?_⟩
        have h := ownsRow_upd hown5 hus (fun b hb e => by
          have := (World.ownsRow.lt hown5 b hb).1
          omega)
        rw [List.length_append, List.map_append]
        exact h
      obtain ⟨w6, hw6⟩ : ∃ w6, w6 = w5.setCell ⟨q3, 0, none⟩ (.slice va (ids.length + 1) vc) := ⟨_, rfl⟩
      rw [← hw6] at hu6 hg6 ⊢
      have HG6 := Lib.hid hg6
      have u7 : Upd (fun b => b = q3 ∨ B ≤ b) w w6.drew := hu6.trans (Upd.of_drewN 1)
      have HD7 := Lib.hid (HD.out _ u7)
      have hb7 : Below w6.heap.size w6 w6.drew := ⟨rfl, rfl, rfl, Nat.le_refl _, fun _ _ => rfl⟩
      clear k5 f5 hown5 hup5 hus hu5 hg6 hw6 k3 k3a kt
      go_wp2_with fail
      go_region_held3 (fun z => z.cell? ⟨q1, 0, none⟩ = some (.pointer (some ⟨pl, 0, none⟩)) ∧ z.cell? ⟨q2, 0, none⟩ = some (.int .u64 hz))
        (first | (with_reducible exact H12.out _ u8) | (with_reducible exact H12.out _ u7))
        (first | (go_at_call 76; (with_reducible refine HD7.out.mono ?_); rintro r w8 ⟨rfl, hk8⟩; have u8 := u7.trans (Upd.same hk8)))
      have HG8 := Lib.hid (HG6.out.upd (S := fun _ => False) (Upd.same (hb7.trans (hk8.mono hb7.size))) id (fun _ _ _ => id))
      go_wp2_with fail
      go_ret
      exact ⟨rfl, by simpa using HG8.out, u8⟩
end
end Go.Proofs.Ytdohkjpapmkhjaa
