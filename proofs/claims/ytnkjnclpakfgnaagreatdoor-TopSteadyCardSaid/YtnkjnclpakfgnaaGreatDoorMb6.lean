/- Package heap: Stamp, Free. · Package heap: Insert. · Package heap: Insert, on a page that has room. · Package heap: Insert, on a new page. No conditions. -/
import Derived.Test.YtnkjnclpakfgnaaGreatDoorMb5
import Derived.Deep.RegionLaw
namespace Go.Proofs.YtnkjnclpakfgnaaGreatDoor
open Go.RowKit
set_option maxRecDepth 100000

theorem used_set {S : List (Option Ver)} {i : Nat} {v u : Ver} (h : S[i]? = some (some v)) (hd : u.data.length = v.data.length) : used (S.set i (some u)) = used S := by
 induction S generalizing i with
 | nil => simp at h
 | cons a S ih =>
  cases i with
  | zero => simp at h; subst h; simp [used, hd]
  | succ i =>
   simp at h
   have := ih h
   cases a <;> simp [used, this]
theorem freeS_set {S : List (Option Ver)} {i : Nat} {v u : Ver} (h : S[i]? = some (some v)) : freeS (S.set i (some u)) = freeS S := by
 unfold freeS
 induction S generalizing i with
 | nil => simp at h
 | cons a S ih =>
  cases i with
  | zero => simp at h; subst h; simp [List.findIdx_cons]
  | succ i =>
   simp at h
   have := ih h
   cases a <;> simp [List.findIdx_cons, this]
theorem roomS_set {S : List (Option Ver)} {i : Nat} {v u : Ver} (h : S[i]? = some (some v)) (hd : u.data.length = v.data.length) : roomS (S.set i (some u)) = roomS S := by
 unfold roomS; rw [used_set h hd, freeS_set h, List.length_set]
theorem clip_room (S : List (Option Ver)) : clip (roomS S) = roomS S := by unfold clip roomS; split <;> omega
theorem map_set {P : List PgS} {n : Nat} (hn : n < P.length) (y : PgS) : setR (P.map fun x => roomS x.2) n (roomS y.2) = (P.set n y).map fun x => roomS x.2 := by
 unfold setR
 rw [if_neg (by simp; omega), clip_room, List.map_set]
theorem map_same {P : List PgS} {n : Nat} {x y : PgS} (hn : P[n]? = some x) (e : roomS y.2 = roomS x.2) : (P.set n y).map (fun x => roomS x.2) = P.map fun x => roomS x.2 := by
 rw [List.map_set, e]
 apply List.ext_getElem?
 intro k
 rw [List.getElem?_set]
 split
 · rename_i h; subst h; simp [hn]; exact (List.getElem?_eq_some_iff.1 hn).1
 · rfl
section
variable {c : Nat → Nat} {k h pool rm : Nat} {w w' : World} {lv : Value} {P : List PgS} {left : Nat} {rs : List Int}

theorem HeapR.setPage (q : HeapR c k w h pool lv rm P rs) {n : Nat} {x : PgS} (hn : P[n]? = some x) (u : Upd (fun b => b = x.1) w w') {S' : List (Option Ver)} (hp : ∃ f, Pg w' x.1 f ∧ PageIs f S') : HeapR c k w' h pool lv rm (P.set n (x.1, S')) rs := by
 obtain ⟨⟨f, h1, _⟩, hc⟩ := q.pages x (List.mem_of_getElem? hn)
 have hnl := (List.getElem?_eq_some_iff.1 hn).1
 have hm : (P.set n (x.1, S')).map (·.1) = P.map (·.1) := by
  rw [List.map_set]
  apply List.ext_getElem?
  intro k
  rw [List.getElem?_set]
  split
  · rename_i h; subst h; simp [hn]; exact hnl
  · rfl
 refine ⟨u.heap q.blk (block_ne q.blk h1.2 (by decide)), ?_, ?_, fun y hy => ?_, by rw [hm]; exact q.once, q.ch, q.cr, q.cl⟩
 · rw [List.length_set, hm]
   exact ownsRow_upd q.row u (fun b hb => by obtain ⟨cu, k1⟩ := row_block q.row hb; exact block_ne k1 h1.2 (by decide))
 · obtain ⟨t, m1, m2, m3⟩ := q.room
   exact ⟨t, u.heap m1 (block_ne m1 h1.2 (by decide)), m2, m3⟩
 · obtain ⟨j, hj⟩ := List.mem_iff_getElem?.1 hy
   rw [List.getElem?_set] at hj
   by_cases e : n = j
   · subst e
     rw [if_pos rfl, if_pos hnl] at hj
     obtain rfl := Option.some.inj hj
     exact ⟨hp, hc⟩
   · rw [if_neg e] at hj
     obtain ⟨⟨f', p1, p2⟩, p3⟩ := q.pages y (List.mem_of_getElem? hj)
     refine ⟨⟨f', By.upd p1 u (fun e2 => e ?_), p2⟩, p3⟩
     have hjl := (List.getElem?_eq_some_iff.1 hj).1
     have := (List.getElem?_inj (i := n) (j := j) (by simpa using hnl) q.once).1 (by simp [hn, hj, e2])
     exact this

set_option maxHeartbeats 1000000 in
theorem hstamp_at (q : HeapAt c k w h pool lv rm P) {n i : Nat} {v : Ver} {x : PgS} (hn : P[n]? = some x) (hi : x.2[i]? = some (some v)) {xm : Nat} {pg sl : Int} (hx : xm ≤ 1099511627776) (hf : FarOk pg sl) :
    Calls Tryz.prog 280 #[.pointer (some ⟨h, 0, none⟩), .agg #[.int .i64 (n : Int), .int .i64 (i : Int)], .int .u64 (xm : Int), .agg #[.int .i64 pg, .int .i64 sl]] w fun e w' =>
      e = .returned (.int .i64 0) ∧ HeapAt c k w' h pool lv rm (P.set n (x.1, x.2.set i (some (stampV v xm pg sl)))) ∧ Upd (fun b => b = x.1) w w' := by
 obtain ⟨⟨f, h1, h2⟩, hcx⟩ := q.pages x (List.mem_of_getElem? hn)
 obtain ⟨wz, hwz⟩ : ∃ wz, wz = (w.alloc (.cells #[.int .i64 (n : Int), .int .i64 (i : Int)] 124)).alloc (.cells #[.int .i64 pg, .int .i64 sl] 124) := ⟨_, rfl⟩
 obtain ⟨t, ht⟩ : ∃ t, t = w.heap.size := ⟨_, rfl⟩
 have hal : Below w.heap.size w wz := by subst hwz; exact ((Below.refl _ _).alloc (Nat.le_refl _) _).alloc (by simp) _
 have hT0 : wz.heap[t]? = some (.cells #[.int .i64 (n : Int), .int .i64 (i : Int)] 124 (0, 0)) := by subst hwz; subst ht; exact block_alloc (heap_new1 w _) _
 have hT1 : wz.heap[t + 1]? = some (.cells #[.int .i64 pg, .int .i64 sl] 124 (0, 0)) := by
  subst hwz; subst ht
  have := heap_new1 (w.alloc (.cells #[.int .i64 (n : Int), .int .i64 (i : Int)] 124)) (.cells #[.int .i64 pg, .int .i64 sl] 124)
  simpa using this
 have hpg := hpage_at (q.same hal) q.len hn
 have hst := stamp_at (By.same h1 hal) h2 i hi hx hf
 have hfin : ∀ w'', (∃ g, Pg w'' x.1 g ∧ PageIs g (x.2.set i (some (stampV v xm pg sl))) ∧ w16 g 2 = w16 f 2) → Upd (fun b => b = x.1) wz w'' → HeapAt c k w'' h pool lv rm (P.set n (x.1, x.2.set i (some (stampV v xm pg sl)))) := fun w'' ⟨g, a1, a2, _⟩ u => by
  have := (q.same hal).setPage hn u ⟨g, a1, a2⟩
  have e := map_same (y := (x.1, x.2.set i (some (stampV v xm pg sl)))) hn (roomS_set hi (u := stampV v xm pg sl) rfl)
  rw [← e] at this
  exact this
 have c0 := cell_of_block hT0 (i := 0) rfl
 have c1 := cell_of_block hT0 (i := 1) rfl
 have c2 := cell_of_block hT1 (i := 0) rfl
 have c3 := cell_of_block hT1 (i := 1) rfl
 have HPG := Lib.hid hpg; have HST := Lib.hid hst; have HFIN := Lib.hid hfin; have HT := Lib.hid ht; have HWZ := Lib.hid hwz
 clear hpg hst hfin ht hwz hT0 hT1 hn hi h1 h2 q hf
 go_enter Tryz.func280, Tryz.ntmps280
 go_wp2_with fail
 rw [← HWZ.out, ← HT.out]
 (with_reducible refine (flp HPG.out).mono ?_)
 rintro r w1 ⟨rfl, rfl⟩
 go_wp2_with fail
 (with_reducible refine HST.out.mono ?_)
 rintro r w2 ⟨rfl, a1, u2⟩
 go_wp2_with fail
 go_ret
 exact ⟨rfl, HFIN.out _ a1 u2, (Upd.same hal).trans u2⟩

set_option maxHeartbeats 2000000 in
theorem hfree_at (q : HeapAt c k w h pool lv rm P) {n i : Nat} {v : Ver} {x : PgS} (hn : P[n]? = some x) (hi : x.2[i]? = some (some v)) :
    Calls Tryz.prog 96 #[.pointer (some ⟨h, 0, none⟩), .agg #[.int .i64 (n : Int), .int .i64 (i : Int)]] w fun e w' =>
      e = .returned (.int .i64 0) ∧ (∃ S', Freed x.2 i S' ∧ HeapAt c k w' h pool lv rm (P.set n (x.1, S'))) ∧ Upd (fun b => b = x.1 ∨ b = rm) w w' := by
 obtain ⟨⟨f, h1, h2⟩, hcx⟩ := q.pages x (List.mem_of_getElem? hn)
 have hnl := (List.getElem?_eq_some_iff.1 hn).1
 have hL := q.len
 obtain ⟨wz, hwz⟩ : ∃ wz, wz = w.alloc (.cells #[.int .i64 (n : Int), .int .i64 (i : Int)] 124) := ⟨_, rfl⟩
 obtain ⟨t, ht⟩ : ∃ t, t = w.heap.size := ⟨_, rfl⟩
 have hal : Below w.heap.size w wz := by subst hwz; exact (Below.refl _ _).alloc (Nat.le_refl _) _
 have hT0 : wz.heap[t]? = some (.cells #[.int .i64 (n : Int), .int .i64 (i : Int)] 124 (0, 0)) := by subst hwz; subst ht; exact heap_new1 w _
 have hxt : x.1 ≠ t := by have := By.lt h1; omega
 have hrt : rm ≠ t := by have := q.room.lt; omega
 have hpg : ∀ w', Below wz.heap.size wz w' → Calls Tryz.prog 88 #[.pointer (some ⟨h, 0, none⟩), .int .i64 (n : Int)] w' _ := fun w' hb => hpage_at ((q.same hal).same hb) hL hn
 have hfr : ∀ w', Below wz.heap.size wz w' → Calls Tryz.prog 146 #[.pointer (some ⟨x.1, 0, none⟩), .int .i64 (i : Int)] w' _ := fun w' hb => pgfree_at (By.same (By.same h1 hal) hb) h2 i hi
 have htold : ∀ w' w'' S', Below wz.heap.size wz w' → (∃ g, Pg w'' x.1 g ∧ PageIs g S') → Upd (fun b => b = x.1) w' w'' → Calls Tryz.prog 147 #[.pointer (some ⟨h, 0, none⟩), .int .i64 (n : Int)] w'' _ := fun w' w'' S' hb ⟨g, a1, a2⟩ u => by
  have q2 := ((q.same hal).same hb).setPage hn u ⟨g, a1, a2⟩
  exact htold_at q2 (n := n) (x := (x.1, S')) (by rw [List.getElem?_set, if_pos rfl, if_pos hnl]) (by simp; omega) (by simp; exact hL)
 have hmap : ∀ S', setR (P.map fun x => roomS x.2) n (roomS S') = (P.set n (x.1, S')).map fun x => roomS x.2 := fun S' => map_set hnl (x.1, S')
 have HPG := Lib.hid hpg; have HFR := Lib.hid hfr; have HTO := Lib.hid htold; have HMAP := Lib.hid hmap; have HT := Lib.hid ht; have HWZ := Lib.hid hwz
 have hb0 : Below wz.heap.size wz wz.drew := ⟨rfl, rfl, rfl, Nat.le_refl _, fun _ _ => rfl⟩
 have k0 : wz.drew.cell? ⟨t, 0, none⟩ = some (.int .i64 (n : Int)) := cell_of_block hT0 rfl
 have k1 : wz.drew.cell? ⟨t, 1, none⟩ = some (.int .i64 (i : Int)) := cell_of_block hT0 rfl
 have K0 := Lib.hid k0; have K1 := Lib.hid k1
 have hxt' : ¬ t = x.1 := fun e => hxt e.symm
 clear hpg hfr htold hmap ht hwz hT0 hn hi h1 h2 q hxt
 go_enter Tryz.func96, Tryz.ntmps96
 go_wp2_with fail
 rw [← HWZ.out, ← HT.out]
 go_region_held3 (fun z => z.cell? ⟨t, 0, none⟩ = some (.int .i64 (n : Int)) ∧ z.cell? ⟨t, 1, none⟩ = some (.int .i64 (i : Int)))
  (first | (with_reducible exact ⟨u2.cell K0.out hxt', u2.cell K1.out hxt'⟩) | (with_reducible exact ⟨k0, k1⟩))
  (first | (go_at_call 88; (with_reducible refine (HPG.out _ hb0).mono ?_); rintro r wa ⟨rfl, rfl⟩) | (go_at_call 146; (with_reducible refine (HFR.out _ hb0).mono ?_); rintro r wb ⟨rfl, ⟨g, S', a1, a2, a3⟩, u2⟩))
 have hto := HTO.out wz.drew wb S' hb0 ⟨g, a1, a2⟩ u2
 have HTO2 := Lib.hid hto
 have z0 := u2.cell K0.out hxt'
 clear hto k0 k1
 go_wp2_with fail
 (with_reducible refine HTO2.out.mono ?_)
 rintro r wc ⟨rfl, q3, u3⟩
 rw [HMAP.out] at q3
 go_wp2_with fail
 go_ret
 exact ⟨rfl, ⟨S', a3, q3⟩, (Upd.same hal).trans_new (((Upd.same hb0).trans (u2.mono (fun b _ e => .inl e))).trans (u3.mono (fun b _ e => .inr e))) (fun b _ e => e)⟩
end
end Go.Proofs.YtnkjnclpakfgnaaGreatDoor
namespace Go.Proofs.YtnkjnclpakfgnaaGreatDoor
open Go.RowKit
set_option maxRecDepth 100000
def set2 (w : World) (b : Nat) (v0 v1 : Value) : World := (w.setCell ⟨b, 0, none⟩ v0).setCell ⟨b, 1, none⟩ v1
theorem set2_heap {w : World} {b T : Nat} {z0 z1 : Value} (h : w.heap[b]? = some (.cells #[z0, z1] T (0, 0))) (v0 v1 : Value) : (set2 w b v0 v1).heap[b]? = some (.cells #[v0, v1] T (0, 0)) := by
 unfold set2; rw [block_setCell (block_setCell h v0) v1]; rfl
theorem set2_upd {S : Nat → Prop} {w0 w : World} {b : Nat} (u : Upd S w0 w) (hb : b < w0.heap.size → S b) (v0 v1 : Value) : Upd S w0 (set2 w b v0 v1) :=
 (u.setCell (a := ⟨b, 0, none⟩) v0 hb).setCell (a := ⟨b, 1, none⟩) v1 hb
section
variable {c : Nat → Nat} {k kp h pool rm : Nat} {w w' : World} {lv : Value} {P : List PgS} {left : Nat} {rs : List Int}

/-- What an insertion does, if there is room: where it lies, and the heap behind it. -/
def Put (P : List PgS) (left : Nat) (v : Ver) (n i : Nat) (P' : List PgS) (left' : Nat) : Prop :=
 (∃ x, P[n]? = some x ∧ i = freeS x.2 ∧ v.data.length ≤ roomS x.2 ∧ (∀ (j : Nat) (y : PgS), j < n → P[j]? = some y → roomS y.2 < v.data.length) ∧ P' = P.set n (x.1, insS x.2 i v) ∧ left' = left) ∨
 ((∀ x ∈ P, roomS x.2 < v.data.length) ∧ n = P.length ∧ i = 0 ∧ left = left' + 1 ∧ ∃ b, P' = P ++ [(b, [some v])])
theorem room_nil : roomS [] = 474 := by decide

end
end Go.Proofs.YtnkjnclpakfgnaaGreatDoor
namespace Go.Proofs.YtnkjnclpakfgnaaGreatDoor
open Go.RowKit
set_option maxRecDepth 100000
section
variable {c : Nat → Nat} {k kp h pool rm : Nat} {w w' : World} {lv : Value} {P : List PgS} {left : Nat} {rs : List Int}

/-- A write into a block of another type. -/
theorem HeapR.other (q : HeapR c k w h pool lv rm P rs) {b0 T : Nat} {cs : Array Value} {fz : Nat × Nat} (hb : w.heap[b0]? = some (.cells cs T fz)) (hT : T ≠ 243 ∧ T ≠ 217 ∧ T ≠ 496 ∧ T ≠ 395) (u : Upd (fun b => b = b0) w w') : HeapR c k w' h pool lv rm P rs := by
 refine ⟨u.heap q.blk (block_ne q.blk hb (Ne.symm hT.1)), ownsRow_upd q.row u (fun b e => by obtain ⟨cu, k1⟩ := row_block q.row e; exact block_ne k1 hb (Ne.symm hT.2.1)), ?_, fun y hy => ?_, q.once, q.ch, q.cr, q.cl⟩
 · obtain ⟨t, m1, m2, m3⟩ := q.room
   exact ⟨t, u.heap m1 (block_ne m1 hb (Ne.symm hT.2.2.1)), m2, m3⟩
 · obtain ⟨⟨f', p1, p2⟩, p3⟩ := q.pages y hy
   exact ⟨⟨f', By.upd p1 u (block_ne p1.2 hb (Ne.symm hT.2.2.2)), p2⟩, p3⟩

theorem q_heap_types {g cap : Nat} (q : HeapR c k w h pool (.slice (some ⟨g, 0, none⟩) P.length cap) rm P rs) {n : Nat} {x : PgS} (hn : P[n]? = some x) : ¬ h = x.1 ∧ ¬ g = x.1 := by
 obtain ⟨⟨f, h1, _⟩, _⟩ := q.pages x (List.mem_of_getElem? hn)
 obtain ⟨cu, k1⟩ := row_block q.row rfl
 exact ⟨block_ne q.blk h1.2 (by decide), block_ne k1 h1.2 (by decide)⟩

set_option maxHeartbeats 4000000 in
theorem hinsert_old (q : HeapAt c k w h pool lv rm P) (hp : PoolAt w pool left) {v : Ver} (hv : VerOk v) {d : Value} (hd : Bs w d v.data) (hf : ∃ x ∈ P, v.data.length ≤ roomS x.2) (hkp : c pool ≠ k) :
    Calls Tryz.prog 328 #[.pointer (some ⟨h, 0, none⟩), verT v d] w fun e w' => ∃ n i P', e = .returned (.tuple #[.agg #[.int .i64 (n : Nat), .int .i64 (i : Nat)], .int .i64 0]) ∧ Put P left v n i P' left ∧ HeapAt c k w' h pool lv rm P' ∧ PoolAt w' pool left ∧ Upd (fun b => c b = k) w w' := by
 have HD := Lib.hid hd
 obtain ⟨_, _, b, o, cap, rfl, hb, _⟩ := hd
 have HV := Lib.hid hv
 obtain ⟨vv, hvv⟩ : ∃ vv, vv = v := ⟨_, rfl⟩
 rw [← hvv] at HV HD
 obtain ⟨row, xmin, xmax, pg, sl, data⟩ := v
 obtain ⟨wz, hwz⟩ : ∃ wz, wz = (w.alloc (.cells #[.int .u64 row, .int .u64 xmin, .int .u64 xmax, .int .i64 pg, .int .i64 sl, .slice (some ⟨b, o, none⟩) data.length cap] 147)).alloc (.cells #[.int .i64 0, .int .i64 0] 124) := ⟨_, rfl⟩
 obtain ⟨t, ht⟩ : ∃ t, t = w.heap.size := ⟨_, rfl⟩
 have hal : Below w.heap.size w wz := by subst hwz; exact ((Below.refl _ _).alloc (Nat.le_refl _) _).alloc (by simp) _
 have hT0 : wz.heap[t]? = some (.cells #[.int .u64 row, .int .u64 xmin, .int .u64 xmax, .int .i64 pg, .int .i64 sl, .slice (some ⟨b, o, none⟩) data.length cap] 147 (0, 0)) := by subst hwz; subst ht; exact block_alloc (heap_new1 w _) _
 have hT1 : wz.heap[t + 1]? = some (.cells #[.int .i64 0, .int .i64 0] 124 (0, 0)) := by
  subst hwz; subst ht
  have := heap_new1 (w.alloc (.cells #[.int .u64 row, .int .u64 xmin, .int .u64 xmax, .int .i64 pg, .int .i64 sl, .slice (some ⟨b, o, none⟩) data.length cap] 147)) (.cells #[.int .i64 0, .int .i64 0] 124)
  simpa using this
 obtain ⟨N, hN⟩ : ∃ N, N = wz.heap.size := ⟨_, rfl⟩
 have hnw : Calls Tryz.prog 330 #[] wz.drew fun e w' => e = .returned (.pointer (some ⟨N, 0, none⟩)) ∧ (∃ g, Pg w' N g ∧ PageIs g []) ∧ Below wz.heap.size wz w' := by
  rw [hN]; exact (pnew_at wz.drew).mono fun e w'' ⟨a1, a2, a3⟩ => ⟨a1, a2, (⟨rfl, rfl, rfl, Nat.le_refl _, fun _ _ => rfl⟩ : Below wz.heap.size wz wz.drew).trans a3⟩
 have hNle : wz.heap.size ≤ N := Nat.le_of_eq hN.symm
 have hin : ∀ w' pb g, Below wz.heap.size wz w' → wz.heap.size ≤ pb → Pg w' pb g → PageIs g [] → Calls Tryz.prog 376 #[.pointer (some ⟨pb, 0, none⟩), verT vv (.slice (some ⟨b, o, none⟩) vv.data.length cap)] w' fun e w'' => e = .returned (.tuple #[.int .i64 0, .int .i64 0]) ∧ Below wz.heap.size wz w'' := fun w' pb g hb' hpb h1 h2 =>
  (pins_ok h1 h2 HV.out (Bs.same (Bs.same HD.out hal) hb') (by rw [room_nil]; have := HV.out.2.2.2.2.1; omega)).mono fun e w'' ⟨a1, _, a3⟩ => ⟨a1, hb'.trans (a3.below (B := wz.heap.size) hb'.size (fun q hq e => by omega))⟩
 rw [hvv] at hin
 have hn1 : (data.length : Int) ≤ 200 := by have := hv.2.2.2.2.1; simp only at this; omega
 have hfd : ∀ w', Below wz.heap.size wz w' → Calls Tryz.prog 377 #[.pointer (some ⟨rm, 0, none⟩), .int .i64 (data.length : Int)] w' fun e w'' => (∃ (n : Nat) (x : PgS), e = .returned (.tuple #[.int .i64 (n : Int), .bool true]) ∧ P[n]? = some x ∧ (data.length : Int) ≤ roomS x.2 ∧ ∀ (j : Nat) (y : PgS), j < n → P[j]? = some y → roomS y.2 < data.length) ∧ w'' = w' := fun w' hb' =>
  (rfind_at ((q.same hal).same hb').room (data.length : Int) (by omega)).mono fun e w'' ⟨n, fb, a1, a2, a3⟩ => by
   cases fb with
   | true =>
    obtain ⟨b1, b2, b3, b4⟩ := a2.1 rfl
    have hl : n.toNat < P.length := by simpa using (show n.toNat < (P.map fun x => roomS x.2).length by omega)
    rw [List.getD_eq_getElem?_getD, List.getElem?_map, List.getElem?_eq_getElem hl] at b3
    exact ⟨⟨n.toNat, P[n.toNat], by rw [a1, show ((n.toNat : Nat) : Int) = n by omega], List.getElem?_eq_getElem hl, by simpa using b3, fun j y hj hy => by have := b4 j hj; rw [List.getD_eq_getElem?_getD, List.getElem?_map, hy] at this; simpa using this⟩, a3⟩
   | false =>
    obtain ⟨x, hx, hr⟩ := hf
    have h1 : roomS x.2 < (data.length : Int) := a2.2 rfl (roomS x.2) (List.mem_map.2 ⟨x, hx, rfl⟩)
    have h2 : (data.length : Int) ≤ roomS x.2 := hr
    omega
 unfold verT tup at hin ⊢
 simp only at hin ⊢
 obtain ⟨n, hn⟩ : ∃ n, n = data.length := ⟨_, rfl⟩
 rw [← hn] at hin hwz hT0 hfd hn1 ⊢
 have HNN := Lib.hid hn; have HVV := Lib.hid hvv
 have HT := Lib.hid ht; have HWZ := Lib.hid hwz; have HT0 := Lib.hid hT0; have HT1 := Lib.hid hT1; have HNW := Lib.hid hnw; have HIN := Lib.hid hin; have HFD := Lib.hid hfd; have HQ0 := Lib.hid q; have HP := Lib.hid hp; have HQ := Lib.hid (q.same hal)
 have hb0 : Below wz.heap.size wz wz.drew := ⟨rfl, rfl, rfl, Nat.le_refl _, fun _ _ => rfl⟩
 clear hN hnw hin hfd ht hwz hT0 hT1 hn q hp hv
 have k0 : wz.cell? ⟨t, 0, none⟩ = some (.int .u64 row) := cell_of_block HT0.out rfl
 have k1 : wz.cell? ⟨t, 1, none⟩ = some (.int .u64 xmin) := cell_of_block HT0.out rfl
 have k2 : wz.cell? ⟨t, 2, none⟩ = some (.int .u64 xmax) := cell_of_block HT0.out rfl
 have k3 : wz.cell? ⟨t, 3, none⟩ = some (.int .i64 pg) := cell_of_block HT0.out rfl
 have k4 : wz.cell? ⟨t, 4, none⟩ = some (.int .i64 sl) := cell_of_block HT0.out rfl
 have k5 : wz.cell? ⟨t, 5, none⟩ = some (.slice (some ⟨b, o, none⟩) n cap) := cell_of_block HT0.out rfl
 have K0 := Lib.hid k0; have K1 := Lib.hid k1; have K2 := Lib.hid k2; have K3 := Lib.hid k3; have K4 := Lib.hid k4; have K5 := Lib.hid k5
 clear k0 k1 k2 k3 k4 k5
 go_enter Tryz.func328, Tryz.ntmps328
 go_wp2_with fail
 rw [← HWZ.out, ← HT.out]
 go_region_held3 (fun z => z.cell? ⟨t, 0, none⟩ = some (.int .u64 row) ∧ z.cell? ⟨t, 1, none⟩ = some (.int .u64 xmin) ∧ z.cell? ⟨t, 2, none⟩ = some (.int .u64 xmax) ∧ z.cell? ⟨t, 3, none⟩ = some (.int .i64 pg) ∧ z.cell? ⟨t, 4, none⟩ = some (.int .i64 sl) ∧ z.cell? ⟨t, 5, none⟩ = some (.slice (some ⟨b, o, none⟩) n cap))
  (first | (with_reducible exact ⟨keeper hb2 K0.out, keeper hb2 K1.out, keeper hb2 K2.out, keeper hb2 K3.out, keeper hb2 K4.out, keeper hb2 K5.out⟩) | (with_reducible exact ⟨keeper hb1 K0.out, keeper hb1 K1.out, keeper hb1 K2.out, keeper hb1 K3.out, keeper hb1 K4.out, keeper hb1 K5.out⟩) | (with_reducible exact ⟨keeper hb0 K0.out, keeper hb0 K1.out, keeper hb0 K2.out, keeper hb0 K3.out, keeper hb0 K4.out, keeper hb0 K5.out⟩))
  (first | (have _h := hb1; go_at_call 376; (with_reducible refine (HIN.out _ _ _ hb1 hNle n1 n2).mono ?_); rintro r wb ⟨rfl, hb2⟩) | (go_at_call 330; (with_reducible refine HNW.out.mono ?_); rintro r wa ⟨rfl, ⟨g, n1, n2⟩, hb1⟩))
 have hb3 : Below wz.heap.size wz wb.drew := hb2.trans ⟨rfl, rfl, rfl, Nat.le_refl _, fun _ _ => rfl⟩
 have H0 := Lib.hid (cell_of_block HQ.out.blk (i := 0) rfl); have H2 := Lib.hid (cell_of_block HQ.out.blk (i := 2) rfl)
 have y2 : wb.drew.cell? ⟨h, 2, none⟩ = some (.pointer (some ⟨rm, 0, none⟩)) := keeper hb3 H2.out
 have y5 : wb.drew.cell? ⟨t, 5, none⟩ = some (.slice (some ⟨b, o, none⟩) n cap) := keeper hb3 K5.out
 clear hb1 n1 n2
 go_wp2_with fail
 go_region_held3 (fun z => z.cell? ⟨h, 2, none⟩ = some (.pointer (some ⟨rm, 0, none⟩)) ∧ z.cell? ⟨t, 5, none⟩ = some (.slice (some ⟨b, o, none⟩) n cap))
  (exact ⟨y2, y5⟩)
  (first | (go_at_call 377; (with_reducible refine (HFD.out _ hb3).mono ?_); rintro r wc ⟨⟨fn, x, rfl, hx, hxr, hxl0⟩, rfl⟩))
 have hq6 := HQ.out.same hb3
 generalize wb.drew = wd at *
 have hxl := (List.getElem?_eq_some_iff.1 hx).1
 have hL := HeapAt.len HQ.out
 go_wp2_with fail
 obtain ⟨g, lcap, hlv, hgx⟩ := hq6.pptr hx
 subst hlv
 have hbd : Below wz.heap.size wz wd.drew := hb3.trans ⟨rfl, rfl, rfl, Nat.le_refl _, fun _ _ => rfl⟩
 have hq7 := hq6.drewN 1
 obtain ⟨⟨f, p1, p2⟩, pc⟩ := hq7.pages x (List.mem_of_getElem? hx)
 have hroom : (vv.data.length : Int) ≤ roomS x.2 := by rw [HVV.out]; simp only; rw [← HNN.out]; exact hxr
 have hins : Calls Tryz.prog 376 #[.pointer (some ⟨x.1, 0, none⟩), verT vv (.slice (some ⟨b, o, none⟩) vv.data.length cap)] wd.drew _ := pins_ok p1 p2 HV.out (Bs.same (Bs.same HD.out hal) hbd) hroom
 rw [HVV.out] at hins
 unfold verT tup at hins
 simp only at hins
 rw [← HNN.out] at hins
 obtain ⟨fr, hfr⟩ : ∃ fr, fr = freeS x.2 := ⟨_, rfl⟩
 rw [← hfr] at hins
 have hq7h := q_heap_types hq7 hx
 obtain ⟨ne1, ne2⟩ := hq7h
 have hxw : x.1 < w.heap.size := by
  obtain ⟨⟨f0, r1, _⟩, _⟩ := HQ0.out.pages x (List.mem_of_getElem? hx)
  exact By.lt r1
 have hrw : rm < w.heap.size := HQ0.out.room.lt
 have hxt : ¬ t = x.1 := by have := HT.out; omega
 have s0 : wd.drew.cell? ⟨t, 0, none⟩ = some (.int .u64 row) := keeper hbd K0.out
 have s1 : wd.drew.cell? ⟨t, 1, none⟩ = some (.int .u64 xmin) := keeper hbd K1.out
 have s2 : wd.drew.cell? ⟨t, 2, none⟩ = some (.int .u64 xmax) := keeper hbd K2.out
 have s3 : wd.drew.cell? ⟨t, 3, none⟩ = some (.int .i64 pg) := keeper hbd K3.out
 have s4 : wd.drew.cell? ⟨t, 4, none⟩ = some (.int .i64 sl) := keeper hbd K4.out
 have s5 : wd.drew.cell? ⟨t, 5, none⟩ = some (.slice (some ⟨b, o, none⟩) n cap) := keeper hbd K5.out
 have s6 : wd.drew.cell? ⟨h, 1, none⟩ = some (.slice (some ⟨g, 0, none⟩) P.length lcap) := cell_of_block hq7.blk (i := 1) rfl
 have s7 : wd.drew.cell? ⟨g, fn, none⟩ = some (.pointer (some ⟨x.1, 0, none⟩)) := hgx
 have S0 := Lib.hid s0
 have S1 := Lib.hid s1
 have S2 := Lib.hid s2
 have S3 := Lib.hid s3
 have S4 := Lib.hid s4
 have S5 := Lib.hid s5
 have S6 := Lib.hid s6
 have S7 := Lib.hid s7
 have HINS := Lib.hid hins; have HQ7 := Lib.hid hq7; have HFR := Lib.hid hfr; have HX := Lib.hid hx; have NE1 := Lib.hid ne1; have NE2 := Lib.hid ne2
 have hnl : (fn : Int) < P.length := by omega
 have hn0 : (0 : Int) ≤ fn := by omega
 clear hins hq7 hq6 hfr hx hgx p1 p2 ne1 ne2 hroom y2 y5
 go_region_held3 (fun z => z.cell? ⟨t, 0, none⟩ = some (.int .u64 row) ∧ z.cell? ⟨t, 1, none⟩ = some (.int .u64 xmin) ∧ z.cell? ⟨t, 2, none⟩ = some (.int .u64 xmax) ∧ z.cell? ⟨t, 3, none⟩ = some (.int .i64 pg) ∧ z.cell? ⟨t, 4, none⟩ = some (.int .i64 sl) ∧ z.cell? ⟨t, 5, none⟩ = some (.slice (some ⟨b, o, none⟩) n cap) ∧ z.cell? ⟨h, 1, none⟩ = some (.slice (some ⟨g, 0, none⟩) P.length lcap) ∧ z.cell? ⟨g, fn, none⟩ = some (.pointer (some ⟨x.1, 0, none⟩)))
  (first | (with_reducible exact ⟨s0, s1, s2, s3, s4, s5, s6, s7⟩) | exact ⟨u2.cell S0.out hxt, u2.cell S1.out hxt, u2.cell S2.out hxt, u2.cell S3.out hxt, u2.cell S4.out hxt, u2.cell S5.out hxt, u2.cell S6.out NE1.out, u2.cell S7.out NE2.out⟩)
  (first | (go_at_call 376; (with_reducible refine HINS.out.mono ?_); rintro r wb2 ⟨rfl, ⟨g2, a1, a2⟩, u2⟩))
 have q8 := HQ7.out.setPage HX.out u2 ⟨g2, a1, a2⟩
 have hto := htold_at q8 (n := fn) (x := (x.1, _)) (by rw [List.getElem?_set, if_pos rfl, if_pos hxl]) (by simp; omega) (by simp; exact hL)
 rw [map_set hxl] at hto
 have HTO := Lib.hid hto
 have hTb := u2.heap ((Upd.same (S := fun _ => False) hbd).heap HT1.out id) (show ¬ t + 1 = x.1 by have := HT.out; omega)
 have HTB := Lib.hid hTb
 clear hto hTb q8 a1 a2 s0 s1 s2 s3 s4 s5 s6 s7
 go_wp2_with fail
 (with_reducible refine HTO.out.mono ?_)
 rintro r w3 ⟨rfl, q9, u3⟩
 have hT3 := u3.heap HTB.out (show ¬ t + 1 = rm by have := HT.out; omega)
 have t0 : w3.cell? ⟨t + 1, 0, none⟩ = some (.int .i64 0) := cell_of_block hT3 rfl
 have t1 : w3.cell? ⟨t + 1, 1, none⟩ = some (.int .i64 0) := cell_of_block hT3 rfl
 have f0 : w3.frozen? ⟨t + 1, 0, none⟩ = false := free_of_block hT3
 have f1 : w3.frozen? ⟨t + 1, 1, none⟩ = false := free_of_block hT3
 have Q9 := Lib.hid q9
 clear q9
 go_wp2_with fail
 have hS := set2_heap hT3 (.int .i64 (fn : Int)) (.int .i64 (fr : Int))
 have hU := set2_upd (Upd.refl (fun g => g = t + 1) w3) (b := t + 1) (fun _ => rfl) (.int .i64 (fn : Int)) (.int .i64 (fr : Int))
 have j0 := cell_of_block hS (i := 0) rfl
 have j1 := cell_of_block hS (i := 1) rfl
 have hqf := Q9.out.other hT3 (by decide) hU
 have hpf : PoolAt (set2 w3 (t + 1) (.int .i64 (fn : Int)) (.int .i64 (fr : Int))) pool left := by
  have g1 := HP.out.upd (S := fun _ => False) (Upd.same (hal.trans (hbd.mono hal.size))) id
  have g2 := g1.upd u2 (block_ne g1.2 (HQ7.out.pages x (List.mem_of_getElem? HX.out)).1.choose_spec.1.2 (by decide))
  have g3 : PoolAt w3 pool left := g2.upd u3 (fun e => by
   subst e
   exact hkp HQ0.out.cr)
  exact g3.upd hU (block_ne g3.2 hT3 (by decide))
 have huf : Upd (fun b => c b = k) w (set2 w3 (t + 1) (.int .i64 (fn : Int)) (.int .i64 (fr : Int))) := by
  have g1 : Upd (fun b => b = x.1 ∨ b = rm) w w3 := (Upd.same (hal.trans (hbd.mono hal.size))).trans_new ((u2.mono (T := fun b => b = x.1 ∨ b = rm) (fun b _ e => .inl e)).trans (u3.mono (fun b _ e => .inr e))) (fun _ _ e => e)
  have g2 := g1.trans_new hU (T := fun b => b = t + 1) (fun b hb e => by have := HT.out; omega)
  exact g2.mono (fun b _ e => by rcases e with rfl | rfl; exact (HQ0.out.pages x (List.mem_of_getElem? HX.out)).2; exact HQ0.out.cr)
 clear t0 t1 f0 f1
 change bodyPost _ _ _ _ _ (set2 w3 (t + 1) (.int .i64 (fn : Int)) (.int .i64 (fr : Int)))
 generalize (set2 w3 (t + 1) (.int .i64 (fn : Int)) (.int .i64 (fr : Int))) = w6 at *
 refine bodyPost_ret (v := .tuple #[.agg #[.int .i64 (fn : Int), .int .i64 (fr : Int)], .int .i64 0]) (by simp [results, Tryz.results328, go_sem, j0, j1]) rfl ⟨fn, fr, _, rfl, .inl ⟨x, HX.out, HFR.out, ?_, fun j y hj hy => ?_, ?_, rfl⟩, hqf, hpf, huf⟩
 · show (data.length : Int) ≤ roomS x.2
   rw [← HNN.out]; exact hxr
 · show roomS y.2 < (data.length : Int)
   rw [← HNN.out]; exact hxl0 j y hj hy
 · rfl
end
end Go.Proofs.YtnkjnclpakfgnaaGreatDoor
namespace Go.Proofs.YtnkjnclpakfgnaaGreatDoor
open Go.RowKit
set_option maxRecDepth 100000

theorem step_append_src {P : Program} {ops : Array Oper} {o : Oper} {a : Act} {w : World} {K : Act → World → Prop} {Q : Exit → Act → World → Prop} {E : Prop}
    (hg : o.guard = none) (s x : Operand) (t : TypeId) (hop : o.op = Op.call { callee := Callee.builtin Builtin.append, args := #[s, x], argTypes := #[t, t] })
    (base : Nat) (e : TypeId) (i : TypeInfo) (z : Value) (size bytes : Nat) (ht : P.underlying t = some (.slice e)) (hi : P.info? e = some i) (hz : i.zero = some z)
    (hsize : i.size = size) (hby : i.bytes = bytes) (hzs : z.cells.size = size) (hsz : 0 < size)
    (v : Value) (n : Nat) (xs : List Value) (hs : a.eval s = v) (hown : w.ownsRow base e size v n xs)
    (ad : Addr) (m c : Nat) (news : List Value) (hx : a.eval x = .slice (some ad) m c) (hl : news.length = m * size) (hc : ∀ j y, news[j]? = some y → w.cell? (ad.add j) = some y)
    (h1 : ∀ u ∈ news, u.oneCell' = true) (h63 : n + m ≤ maxLen) (hbytes : (n + m) * bytes ≤ 140737488355328) (hbase : base ≤ w.heap.size)
    (hK : ∀ v' w', w'.ownsRow base e size v' (n + m) (xs ++ news) → Upd (fun b => v.ownBlock = some b) w w' → (∀ g, v'.ownBlock = some g → v.ownBlock = some g ∨ w.heap.size ≤ g) → K (a.put o.dst v') w') :
    if Region.wanted o (yielded ops a.tmps) = true then Oper.wp P o a w K Q else E := by
  have hw : Region.wanted o (yielded ops a.tmps) = true := by simp [Region.wanted, hg]
  rw [if_pos hw]
  obtain ⟨v', w', hr, h2, h3, h4⟩ := run_append_mine (P := P) (w := w) base t o.type e i z size bytes ht hi hz hsize hby hzs hsz v n xs hown ad m c news hl hc h1 h63 hbytes hbase
  unfold Oper.wp execOp
  simp only [hop, resolve, invoke, builtin, Sem.run_bind, Sem.run_pure, Result.andThen_ok, List.map_toArray, List.map_cons, List.map_nil, hs, hx, hr]
  exact hK v' w' h2 h3 h4
theorem Tryz.info217 : (Tryz.prog.info? 217).map (fun i => (i.zero, i.size, i.bytes)) = some (some (.pointer none), 1, 8) := by kernel_rfl
section
variable {c : Nat → Nat} {k kp h pool rm : Nat} {w w' : World} {lv : Value} {P : List PgS} {left : Nat} {rs : List Int}

theorem col_k {c : Nat → Nat} {B k b : Nat} (h : c b = k) : col c B k b = k := by unfold col; split <;> simp [h]
/-- One page more, of which nothing is told yet. -/
theorem HeapR.grow {wp wa w5 : World} {va : Option Addr} {vc B N2 : Nat} {g : Nat → Nat} (q : HeapR c k wp h pool lv rm P rs) (hB : B ≤ wp.heap.size) (hN : N2 = wp.heap.size) (hk : Below wp.heap.size wp wa) (h1 : Pg wa N2 g) (h2 : PageIs g [])
   (hup : Upd (fun b => lv.ownBlock = some b) (wa.alloc (.cells #[.pointer (some ⟨N2, 0, none⟩)] 217)) w5) (hown : w5.ownsRow 0 217 1 (.slice va (P.length + 1) vc) (P.length + 1) (ptrs (P.map (·.1)) ++ [.pointer (some ⟨N2, 0, none⟩)]))
   (hnew : ∀ g, (Value.slice va (P.length + 1) vc).ownBlock = some g → lv.ownBlock = some g ∨ (wa.alloc (.cells #[.pointer (some ⟨N2, 0, none⟩)] 217)).heap.size ≤ g) :
   HeapR (col c B k) k (w5.setCell ⟨h, 1, none⟩ (.slice va (P.length + 1) vc)) h pool (.slice va (P.length + 1) vc) rm (P ++ [(N2, [])]) rs := by
 have ha : Below wp.heap.size wp (wa.alloc (.cells #[.pointer (some ⟨N2, 0, none⟩)] 217)) := hk.trans ((Below.refl _ _).alloc hk.size _)
 have qa := q.same ha
 have nr : ∀ {b T : Nat} {x : Array Value}, (wa.alloc (.cells #[.pointer (some ⟨N2, 0, none⟩)] 217)).heap[b]? = some (.cells x T (0, 0)) → T ≠ 217 → ¬ lv.ownBlock = some b := fun hx hT e => by
  obtain ⟨cu, k1⟩ := row_block qa.row e; exact block_ne k1 hx (Ne.symm hT) rfl
 have b5 := hup.heap qa.blk (nr qa.blk (by decide))
 have hu : Upd (fun b => b = h) w5 (w5.setCell ⟨h, 1, none⟩ (.slice va (P.length + 1) vc)) := (Upd.refl (fun b => b = h) w5).setCell (a := ⟨h, 1, none⟩) _ (fun _ => rfl)
 have hN2 : Pg w5 N2 g := by
  have h1a : Pg (wa.alloc (.cells #[.pointer (some ⟨N2, 0, none⟩)] 217)) N2 g := By.same h1 ((Below.refl _ _).alloc (Nat.le_refl _) _)
  exact By.upd h1a hup (nr h1a.2 (by decide))
 refine ⟨by rw [block_setCell b5]; rfl, ?_, ?_, fun y hy => ?_, ?_, col_k q.ch, col_k q.cr, fun b hb => ?_⟩
 · have := ownsRow_upd hown hu (fun b e => by obtain ⟨cu, k1⟩ := row_block hown e; exact block_ne k1 b5 (by decide))
   rw [List.length_append, List.map_append]
   simpa [ptrs, ptr] using this
 · obtain ⟨t, m1, m2, m3⟩ := qa.room
   have m1' : Mp w5 rm t := hup.heap m1 (nr m1 (by decide))
   exact ⟨t, hu.heap m1' (block_ne m1' b5 (by decide)), m2, m3⟩
 · rcases List.mem_append.1 hy with hy | hy
   · obtain ⟨⟨f', p1, p2⟩, p3⟩ := qa.pages y hy
     have p1' : Pg w5 y.1 f' := By.upd p1 hup (nr p1.2 (by decide))
     exact ⟨⟨f', By.upd p1' hu (block_ne p1'.2 b5 (by decide)), p2⟩, col_k p3⟩
   · obtain rfl := List.mem_singleton.1 hy
     exact ⟨⟨g, By.upd hN2 hu (block_ne hN2.2 b5 (by decide)), h2⟩, col_new (by omega)⟩
 · rw [List.map_append, List.nodup_append]
   refine ⟨q.once, by simp, fun a ha' b hb e => ?_⟩
   obtain ⟨y, hy, rfl⟩ := List.mem_map.1 ha'
   have : b = N2 := by simpa using hb
   obtain ⟨⟨f', p1, _⟩, _⟩ := q.pages y hy
   have := By.lt p1
   omega
 · rcases hnew b hb with e | e
   · exact col_k (q.cl b e)
   · exact col_new (Nat.le_trans hB (Nat.le_trans ha.size e))

set_option maxHeartbeats 4000000 in
theorem hinsert_new (q : HeapAt c k w h pool lv rm P) (hp : PoolAt w pool left) {v : Ver} (hv : VerOk v) {d : Value} (hd : Bs w d v.data) (hf : ∀ x ∈ P, roomS x.2 < v.data.length) (hkp : c pool ≠ k) (hleft : 1 ≤ left) (hP : P.length + left ≤ 256) (hbn : ∀ b, d.ownBlock = some b → ¬(b = pool ∨ b = h ∨ lv.ownBlock = some b)) :
    Calls Tryz.prog 328 #[.pointer (some ⟨h, 0, none⟩), verT v d] w fun e w' => ∃ n i P' lv' left', e = .returned (.tuple #[.agg #[.int .i64 (n : Nat), .int .i64 (i : Nat)], .int .i64 0]) ∧ Put P left v n i P' left' ∧ HeapAt (col c w.heap.size k) k w' h pool lv' rm P' ∧ PoolAt w' pool left' ∧ Upd (fun b => c b = k ∨ b = pool) w w' := by
 have HD := Lib.hid hd
 obtain ⟨_, _, b, o, cap, rfl, hb, _⟩ := hd
 have HBN := Lib.hid (hbn b rfl)
 have HV := Lib.hid hv
 obtain ⟨vv, hvv⟩ : ∃ vv, vv = v := ⟨_, rfl⟩
 rw [← hvv] at HV HD
 obtain ⟨row, xmin, xmax, pg, sl, data⟩ := v
 obtain ⟨wz, hwz⟩ : ∃ wz, wz = (w.alloc (.cells #[.int .u64 row, .int .u64 xmin, .int .u64 xmax, .int .i64 pg, .int .i64 sl, .slice (some ⟨b, o, none⟩) data.length cap] 147)).alloc (.cells #[.int .i64 0, .int .i64 0] 124) := ⟨_, rfl⟩
 obtain ⟨t, ht⟩ : ∃ t, t = w.heap.size := ⟨_, rfl⟩
 have hal : Below w.heap.size w wz := by subst hwz; exact ((Below.refl _ _).alloc (Nat.le_refl _) _).alloc (by simp) _
 have hT0 : wz.heap[t]? = some (.cells #[.int .u64 row, .int .u64 xmin, .int .u64 xmax, .int .i64 pg, .int .i64 sl, .slice (some ⟨b, o, none⟩) data.length cap] 147 (0, 0)) := by subst hwz; subst ht; exact block_alloc (heap_new1 w _) _
 have hT1 : wz.heap[t + 1]? = some (.cells #[.int .i64 0, .int .i64 0] 124 (0, 0)) := by
  subst hwz; subst ht
  have := heap_new1 (w.alloc (.cells #[.int .u64 row, .int .u64 xmin, .int .u64 xmax, .int .i64 pg, .int .i64 sl, .slice (some ⟨b, o, none⟩) data.length cap] 147)) (.cells #[.int .i64 0, .int .i64 0] 124)
  simpa using this
 obtain ⟨N, hN⟩ : ∃ N, N = wz.heap.size := ⟨_, rfl⟩
 have hnw : Calls Tryz.prog 330 #[] wz.drew fun e w' => e = .returned (.pointer (some ⟨N, 0, none⟩)) ∧ (∃ g, Pg w' N g ∧ PageIs g []) ∧ Below wz.heap.size wz w' := by
  rw [hN]; exact (pnew_at wz.drew).mono fun e w'' ⟨a1, a2, a3⟩ => ⟨a1, a2, (⟨rfl, rfl, rfl, Nat.le_refl _, fun _ _ => rfl⟩ : Below wz.heap.size wz wz.drew).trans a3⟩
 have hNle : wz.heap.size ≤ N := Nat.le_of_eq hN.symm
 have hin : ∀ w' pb g, Below wz.heap.size wz w' → wz.heap.size ≤ pb → Pg w' pb g → PageIs g [] → Calls Tryz.prog 376 #[.pointer (some ⟨pb, 0, none⟩), verT vv (.slice (some ⟨b, o, none⟩) vv.data.length cap)] w' fun e w'' => e = .returned (.tuple #[.int .i64 0, .int .i64 0]) ∧ Below wz.heap.size wz w'' := fun w' pb g hb' hpb h1 h2 =>
  (pins_ok h1 h2 HV.out (Bs.same (Bs.same HD.out hal) hb') (by rw [room_nil]; have := HV.out.2.2.2.2.1; omega)).mono fun e w'' ⟨a1, _, a3⟩ => ⟨a1, hb'.trans (a3.below (B := wz.heap.size) hb'.size (fun q hq e => by omega))⟩
 rw [hvv] at hin
 have hn1 : (data.length : Int) ≤ 200 := by have := hv.2.2.2.2.1; simp only at this; omega
 have hfd : ∀ w', Below wz.heap.size wz w' → Calls Tryz.prog 377 #[.pointer (some ⟨rm, 0, none⟩), .int .i64 (data.length : Int)] w' fun e w'' => (∃ n, e = .returned (.tuple #[.int .i64 n, .bool false])) ∧ w'' = w' := fun w' hb' =>
  (rfind_at ((q.same hal).same hb').room (data.length : Int) (by omega)).mono fun e w'' ⟨n, fb, a1, a2, a3⟩ => by
   cases fb with
   | false => exact ⟨⟨n, a1⟩, a3⟩
   | true =>
    obtain ⟨b1, b2, b3, _⟩ := a2.1 rfl
    exfalso
    have hl : n.toNat < P.length := by simpa using (show n.toNat < (P.map fun x => roomS x.2).length by omega)
    rw [List.getD_eq_getElem?_getD, List.getElem?_map, List.getElem?_eq_getElem hl] at b3
    have := hf P[n.toNat] (List.getElem_mem _)
    simp at b3 this; omega
 unfold verT tup at hin ⊢
 simp only at hin ⊢
 obtain ⟨n, hn⟩ : ∃ n, n = data.length := ⟨_, rfl⟩
 rw [← hn] at hin hwz hT0 hfd hn1 ⊢
 have HNN := Lib.hid hn; have HVV := Lib.hid hvv
 have HT := Lib.hid ht; have HWZ := Lib.hid hwz; have HT0 := Lib.hid hT0; have HT1 := Lib.hid hT1; have HNW := Lib.hid hnw; have HIN := Lib.hid hin; have HFD := Lib.hid hfd; have HQ0 := Lib.hid q; have HP := Lib.hid hp; have HQ := Lib.hid (q.same hal)
 have hb0 : Below wz.heap.size wz wz.drew := ⟨rfl, rfl, rfl, Nat.le_refl _, fun _ _ => rfl⟩
 clear hN hnw hin hfd ht hwz hT0 hT1 hn q hp hv
 have k0 : wz.cell? ⟨t, 0, none⟩ = some (.int .u64 row) := cell_of_block HT0.out rfl
 have k1 : wz.cell? ⟨t, 1, none⟩ = some (.int .u64 xmin) := cell_of_block HT0.out rfl
 have k2 : wz.cell? ⟨t, 2, none⟩ = some (.int .u64 xmax) := cell_of_block HT0.out rfl
 have k3 : wz.cell? ⟨t, 3, none⟩ = some (.int .i64 pg) := cell_of_block HT0.out rfl
 have k4 : wz.cell? ⟨t, 4, none⟩ = some (.int .i64 sl) := cell_of_block HT0.out rfl
 have k5 : wz.cell? ⟨t, 5, none⟩ = some (.slice (some ⟨b, o, none⟩) n cap) := cell_of_block HT0.out rfl
 have K0 := Lib.hid k0; have K1 := Lib.hid k1; have K2 := Lib.hid k2; have K3 := Lib.hid k3; have K4 := Lib.hid k4; have K5 := Lib.hid k5
 clear k0 k1 k2 k3 k4 k5
 go_enter Tryz.func328, Tryz.ntmps328
 go_wp2_with fail
 rw [← HWZ.out, ← HT.out]
 go_region_held3 (fun z => z.cell? ⟨t, 0, none⟩ = some (.int .u64 row) ∧ z.cell? ⟨t, 1, none⟩ = some (.int .u64 xmin) ∧ z.cell? ⟨t, 2, none⟩ = some (.int .u64 xmax) ∧ z.cell? ⟨t, 3, none⟩ = some (.int .i64 pg) ∧ z.cell? ⟨t, 4, none⟩ = some (.int .i64 sl) ∧ z.cell? ⟨t, 5, none⟩ = some (.slice (some ⟨b, o, none⟩) n cap))
  (first | (with_reducible exact ⟨keeper hb2 K0.out, keeper hb2 K1.out, keeper hb2 K2.out, keeper hb2 K3.out, keeper hb2 K4.out, keeper hb2 K5.out⟩) | (with_reducible exact ⟨keeper hb1 K0.out, keeper hb1 K1.out, keeper hb1 K2.out, keeper hb1 K3.out, keeper hb1 K4.out, keeper hb1 K5.out⟩) | (with_reducible exact ⟨keeper hb0 K0.out, keeper hb0 K1.out, keeper hb0 K2.out, keeper hb0 K3.out, keeper hb0 K4.out, keeper hb0 K5.out⟩))
  (first | (have _h := hb1; go_at_call 376; (with_reducible refine (HIN.out _ _ _ hb1 hNle n1 n2).mono ?_); rintro r wb ⟨rfl, hb2⟩) | (go_at_call 330; (with_reducible refine HNW.out.mono ?_); rintro r wa ⟨rfl, ⟨g, n1, n2⟩, hb1⟩))
 have hb3 : Below wz.heap.size wz wb.drew := hb2.trans ⟨rfl, rfl, rfl, Nat.le_refl _, fun _ _ => rfl⟩
 have H0 := Lib.hid (cell_of_block HQ.out.blk (i := 0) rfl); have H2 := Lib.hid (cell_of_block HQ.out.blk (i := 2) rfl)
 have y2 : wb.drew.cell? ⟨h, 2, none⟩ = some (.pointer (some ⟨rm, 0, none⟩)) := keeper hb3 H2.out
 have y5 : wb.drew.cell? ⟨t, 5, none⟩ = some (.slice (some ⟨b, o, none⟩) n cap) := keeper hb3 K5.out
 clear hb1 n1 n2
 go_wp2_with fail
 go_region_held3 (fun z => z.cell? ⟨h, 2, none⟩ = some (.pointer (some ⟨rm, 0, none⟩)) ∧ z.cell? ⟨t, 5, none⟩ = some (.slice (some ⟨b, o, none⟩) n cap))
  (exact ⟨y2, y5⟩)
  (first | (go_at_call 377; (with_reducible refine (HFD.out _ hb3).mono ?_); rintro r wc ⟨⟨fn, rfl⟩, rfl⟩))
 have hq6 := HQ.out.same hb3
 obtain ⟨l', rfl⟩ : ∃ l', left = l' + 1 := ⟨left - 1, by omega⟩
 have hp6 := HP.out.upd (S := fun _ => False) (Upd.same (hal.trans (hb3.mono hal.size))) id
 have hbl := hal.size
 have hb3s := hb3.size
 generalize wb.drew = wd at *
 have hlf := left_at hp6
 have y0 := cell_of_block hq6.blk (i := 0) rfl
 have y1 := cell_of_block hq6.blk (i := 1) rfl
 have p0 : wd.cell? ⟨pool, 0, none⟩ = some (.int .i64 ((l' : Int) + 1)) := cell_of_block hp6.2 rfl
 have pf : wd.frozen? ⟨pool, 0, none⟩ = false := free_of_block hp6.2
 have hl256 := hp6.1
 have HLF := Lib.hid hlf; have HP6 := Lib.hid hp6; have HQ6 := Lib.hid hq6
 obtain ⟨la, lc, rfl⟩ := ownsRow_slice hq6.row
 clear hbn
 clear hlf hp6 hq6 y2 y5
 go_wp2_with (go_at_call 378; (with_reducible refine (flp HLF.out).mono ?_); rintro e w3 ⟨rfl, rfl⟩)
 obtain ⟨wp, hwp⟩ : ∃ wp, wp = wd.setCell ⟨pool, 0, none⟩ (.int .i64 (l' : Int)) := ⟨_, rfl⟩
 rw [← hwp]
 have up : Upd (fun q => q = pool) wd wp := by subst hwp; exact (Upd.refl (fun q => q = pool) wd).setCell (a := ⟨pool, 0, none⟩) _ (fun _ => rfl)
 have hqp := HQ6.out.other HP6.out.2 (by decide) up
 have hpp : PoolAt wp pool l' := ⟨by omega, by subst hwp; rw [block_setCell HP6.out.2]; rfl⟩
 have HB0 := Lib.hid (show w.heap.size ≤ wp.heap.size from Nat.le_trans (Nat.le_trans hal.size hb3.size) up.size)
 clear hwp p0 pf
 obtain ⟨i0, hi, hz0, hz1, hz2⟩ := info_parts Tryz.info217
 obtain ⟨N2, hN2⟩ : ∃ N2, N2 = wp.heap.size := ⟨_, rfl⟩
 have hnew : Calls Tryz.prog 330 #[] wp.drew fun e w' => e = .returned (.pointer (some ⟨N2, 0, none⟩)) ∧ (∃ g, Pg w' N2 g ∧ PageIs g []) ∧ Below wp.heap.size wp w' := by
  rw [hN2]; exact (pnew_at wp.drew).mono fun e w'' ⟨a1, a2, a3⟩ => ⟨a1, a2, (⟨rfl, rfl, rfl, Nat.le_refl _, fun _ _ => rfl⟩ : Below wp.heap.size wp wp.drew).trans a3⟩
 have s1 : wp.drew.cell? ⟨h, 1, none⟩ = some (.slice la P.length lc) := cell_of_block hqp.blk rfl
 have hgrow : ∀ w', Below wp.heap.size wp w' → (w'.alloc (.cells #[.pointer (some ⟨N2, 0, none⟩)] 217)).ownsRow 0 217 1 (.slice la P.length lc) P.length (ptrs (P.map (·.1))) ∧ w'.cell? ⟨h, 1, none⟩ = some (.slice la P.length lc) ∧ (w'.alloc (.cells #[.pointer (some ⟨N2, 0, none⟩)] 217)).heap[w'.heap.size]? = some (.cells #[.pointer (some ⟨N2, 0, none⟩)] 217 (0, 0)) := fun w' hb =>
  ⟨World.ownsRow.alloc (hqp.same hb).row _, cell_of_block (hqp.same hb).blk rfl, heap_new1 w' _⟩
 have neh : ¬ (Value.slice la P.length lc).ownBlock = some h := fun e => by obtain ⟨cu, k1⟩ := row_block hqp.row e; exact block_ne k1 hqp.blk (by decide) rfl
 have NEH := Lib.hid neh
 have HNEW := Lib.hid hnew; have HGROW := Lib.hid hgrow; have HQP := Lib.hid hqp; have HPP := Lib.hid hpp; have HN2 := Lib.hid hN2
 have hl256 := HeapAt.len HQ.out
 clear neh hnew hgrow hqp hpp hN2 y0 y1
 go_region_law (first
  | (go_simp; go_at_call 330; (with_reducible refine HNEW.out.mono ?_); rintro r wa ⟨rfl, ⟨g, n1, n2⟩, hk1⟩; have s2 := (HGROW.out _ hk1).2.1; have s3 : (wa.alloc (.cells #[.pointer (some ⟨N2, 0, none⟩)] 217)).cell? ⟨h, 1, none⟩ = some (.slice la P.length lc) := keeper ((Below.refl _ _).alloc (Nat.le_refl _) _) s2)
  | (refine step_append_src rfl (.tmp 63) (.tmp 65) 240 rfl 0 217 i0 (.pointer none) 1 8 Tryz.underlying240 hi hz0 hz1 hz2 rfl (by decide) (.slice la P.length lc) P.length (ptrs (P.map (·.1))) (by simp [Act.eval]) (HGROW.out _ hk1).1 ⟨wa.heap.size, 0, none⟩ 1 1 [.pointer (some ⟨N2, 0, none⟩)] (by simp [Act.eval]) rfl (news_block (cs := [.pointer (some ⟨N2, 0, none⟩)]) (HGROW.out _ hk1).2.2) (by simp [Value.oneCell']) (by unfold maxLen; omega) (by omega) (Nat.zero_le _) ?_; intro v2 w5 hown5 hup5 hnew5; obtain ⟨va, vc, rfl⟩ := ownsRow_slice hown5; have b5 := hup5.heap (block_alloc (HQP.out.same hk1).blk (.cells #[.pointer (some ⟨N2, 0, none⟩)] 217)) NEH.out; have k5 : w5.cell? ⟨h, 1, none⟩ = some (.slice la P.length lc) := cell_of_block b5 rfl; have f5 : w5.frozen? ⟨h, 1, none⟩ = false := free_of_block b5))
 all_goals
  have hgr := HQP.out.grow (B := w.heap.size) HB0.out HN2.out hk1 n1 n2 hup5 hown5 hnew5
  have hT : Upd (fun b => b = pool ∨ b = h ∨ (Value.slice la P.length lc).ownBlock = some b) wd (w5.setCell ⟨h, 1, none⟩ (.slice va (P.length + 1) vc)) :=
   ((((up.mono (fun b _ e => .inl e)).trans (Upd.same hk1)).alloc _).trans (hup5.mono (fun b _ e => .inr (.inr e)))).setCell (a := ⟨h, 1, none⟩) _ (fun _ => .inr (.inl rfl))
  have hpz : PoolAt (w5.setCell ⟨h, 1, none⟩ (.slice va (P.length + 1) vc)) pool l' := by
   have g1 := (HPP.out.upd (S := fun _ => False) (Upd.same hk1) id).upd (S := fun _ => False) (Upd.same ((Below.refl _ _).alloc (Nat.le_refl _) (.cells #[.pointer (some ⟨N2, 0, none⟩)] 217))) id
   have g2 := g1.upd hup5 (fun e => by obtain ⟨cu, k1⟩ := row_block ((HGROW.out _ hk1).1) e; exact block_ne k1 g1.2 (by decide) rfl)
   exact g2.upd ((Upd.refl (fun b => b = h) w5).setCell (a := ⟨h, 1, none⟩) _ (fun _ => rfl)) (block_ne g2.2 b5 (by decide))
  have HGR := Lib.hid hgr; have HTT := Lib.hid hT; have HPZ := Lib.hid hpz; have NN1 := Lib.hid n1
  clear hgr hT hpz hnew5 hown5 hup5 k5 f5 b5 n1 n2 hk1 s2 s3
  generalize w5.setCell ⟨h, 1, none⟩ (.slice va (P.length + 1) vc) = w7 at *
  have hq7 := HGR.out.drewN 1
  have hP1 : (P ++ [(N2, ([] : List (Option Ver)))]).length = P.length + 1 := by simp
  have hx : (P ++ [(N2, ([] : List (Option Ver)))])[P.length]? = some (N2, []) := by simp
  obtain ⟨g3, lcap, hlv, hgx⟩ := hq7.pptr hx
  rw [hP1] at hlv
  simp only [Value.slice.injEq] at hlv
  obtain ⟨rfl, _, rfl⟩ := hlv
  obtain ⟨⟨f, p1, p2⟩, pc⟩ := hq7.pages _ (List.mem_of_getElem? hx)
  have hroom : (vv.data.length : Int) ≤ roomS [] := by rw [room_nil]; have := HV.out.2.2.2.2.1; omega
  have hlt3 : ∀ b, (b = pool ∨ b = h ∨ (Value.slice la P.length lc).ownBlock = some b) → b < w.heap.size := fun b e => by
   rcases e with rfl | rfl | e
   · exact lt_of_block HP.out.2
   · exact lt_of_block HQ0.out.blk
   · exact (World.ownsRow.lt HQ0.out.row b e).2
  have HLT3 := Lib.hid hlt3
  have hbs : Bs w7.drew (.slice (some ⟨b, o, none⟩) vv.data.length cap) vv.data :=
   ((Bs.same (Bs.same HD.out hal) hb3).upd HTT.out (fun b' o' n' c' e => by cases e; exact HBN.out)).drewN 1
  have hins : Calls Tryz.prog 376 #[.pointer (some ⟨N2, 0, none⟩), verT vv (.slice (some ⟨b, o, none⟩) vv.data.length cap)] w7.drew _ := pins_ok p1 p2 HV.out hbs hroom
  rw [HVV.out] at hins
  unfold verT tup at hins
  simp only at hins
  rw [← HNN.out] at hins
  obtain ⟨fr, hfr⟩ : ∃ fr, fr = freeS [] := ⟨_, rfl⟩
  rw [← hfr] at hins
  rw [← hP1] at hq7
  obtain ⟨ne1, ne2⟩ := q_heap_types hq7 hx
  have hxw : w.heap.size ≤ N2 := Nat.le_trans HB0.out (Nat.le_of_eq HN2.out.symm)
  have htw : t < wz.heap.size := lt_of_block HT0.out
  have htw1 : t + 1 < wz.heap.size := lt_of_block HT1.out
  have hN2z : wz.heap.size ≤ N2 := by have := HN2.out; have := hb3.size; have := up.size; omega
  have hxt : ¬ t = N2 := by omega
  have htn : ¬ (t = pool ∨ t = h ∨ (Value.slice la P.length lc).ownBlock = some t) := fun e => by have := HLT3.out t e; have := HT.out; omega
  have s0 : w7.drew.cell? ⟨t, 0, none⟩ = some (.int .u64 row) := HTT.out.cell (keeper hb3 K0.out) htn
  have s1 : w7.drew.cell? ⟨t, 1, none⟩ = some (.int .u64 xmin) := HTT.out.cell (keeper hb3 K1.out) htn
  have s2 : w7.drew.cell? ⟨t, 2, none⟩ = some (.int .u64 xmax) := HTT.out.cell (keeper hb3 K2.out) htn
  have s3 : w7.drew.cell? ⟨t, 3, none⟩ = some (.int .i64 pg) := HTT.out.cell (keeper hb3 K3.out) htn
  have s4 : w7.drew.cell? ⟨t, 4, none⟩ = some (.int .i64 sl) := HTT.out.cell (keeper hb3 K4.out) htn
  have s5 : w7.drew.cell? ⟨t, 5, none⟩ = some (.slice (some ⟨b, o, none⟩) n cap) := HTT.out.cell (keeper hb3 K5.out) htn
  have s6 : w7.drew.cell? ⟨h, 1, none⟩ = some (.slice (some ⟨g3, 0, none⟩) (P.length + 1) vc) := cell_of_block HGR.out.blk rfl
  have s7 : w7.drew.cell? ⟨g3, P.length, none⟩ = some (.pointer (some ⟨N2, 0, none⟩)) := hgx
  have S0 := Lib.hid s0
  have S1 := Lib.hid s1
  have S2 := Lib.hid s2
  have S3 := Lib.hid s3
  have S4 := Lib.hid s4
  have S5 := Lib.hid s5
  have S6 := Lib.hid s6
  have S7 := Lib.hid s7
  have HINS := Lib.hid hins; have HQ7 := Lib.hid hq7; have HFR := Lib.hid hfr; have HX := Lib.hid hx; have NE1 := Lib.hid ne1; have NE2 := Lib.hid ne2; have HP1 := Lib.hid hP1
  have hnl : (P.length : Int) < (P.length : Int) + 1 := by omega
  have hn0 : (0 : Int) ≤ P.length := by omega
  clear hins hq7 hfr hx hgx p1 p2 ne1 ne2 hroom hbs hP1 hlt3
  go_wp2_with fail
  go_region_held3 (fun z => z.cell? ⟨t, 0, none⟩ = some (.int .u64 row) ∧ z.cell? ⟨t, 1, none⟩ = some (.int .u64 xmin) ∧ z.cell? ⟨t, 2, none⟩ = some (.int .u64 xmax) ∧ z.cell? ⟨t, 3, none⟩ = some (.int .i64 pg) ∧ z.cell? ⟨t, 4, none⟩ = some (.int .i64 sl) ∧ z.cell? ⟨t, 5, none⟩ = some (.slice (some ⟨b, o, none⟩) n cap) ∧ z.cell? ⟨h, 1, none⟩ = some (.slice (some ⟨g3, 0, none⟩) (P.length + 1) vc) ∧ z.cell? ⟨g3, P.length, none⟩ = some (.pointer (some ⟨N2, 0, none⟩)))
   (first | (with_reducible exact ⟨s0, s1, s2, s3, s4, s5, s6, s7⟩) | exact ⟨u2.cell S0.out hxt, u2.cell S1.out hxt, u2.cell S2.out hxt, u2.cell S3.out hxt, u2.cell S4.out hxt, u2.cell S5.out hxt, u2.cell S6.out NE1.out, u2.cell S7.out NE2.out⟩)
   (first | (go_at_call 376; (with_reducible refine HINS.out.mono ?_); rintro r wb2 ⟨rfl, ⟨g2, a1, a2⟩, u2⟩))
  have q8 := HQ7.out.setPage HX.out u2 ⟨g2, a1, a2⟩
  have hset : (P ++ [(N2, ([] : List (Option Ver)))]).set P.length (N2, insS [] fr ⟨row, xmin, xmax, pg, sl, data⟩) = P ++ [(N2, [some ⟨row, xmin, xmax, pg, sl, data⟩])] := by
   rw [HFR.out, List.set_append_right _ _ (Nat.le_refl _), Nat.sub_self]; rfl
  have q8' : HeapR (col c w.heap.size k) k wb2 h pool (.slice (some ⟨g3, 0, none⟩) (P.length + 1) vc) rm (P ++ [(N2, [some ⟨row, xmin, xmax, pg, sl, data⟩])]) (P.map fun x => roomS x.2) := by rw [← hset, ← HP1.out]; exact q8
  have hmx : setR (P.map fun x => roomS x.2) P.length (roomS [some (⟨row, xmin, xmax, pg, sl, data⟩ : Ver)]) = (P ++ [(N2, [some (⟨row, xmin, xmax, pg, sl, data⟩ : Ver)])]).map fun x => roomS x.2 := by
   unfold setR; rw [if_pos (by simp), clip_room, List.map_append]; rfl
  have hto := htold_at q8' (n := P.length) (x := (N2, [some (⟨row, xmin, xmax, pg, sl, data⟩ : Ver)])) (by simp) (by simp) (by simp; omega)
  simp only [hmx] at hto
  have HTO := Lib.hid hto
  have hTb : wb2.heap[t + 1]? = some (.cells #[.int .i64 0, .int .i64 0] 124 (0, 0)) := u2.heap ((Upd.of_drewN (S := fun _ => False) 1).heap (HTT.out.heap ((Upd.same (S := fun _ => False) hb3).heap HT1.out id) (fun e => by have := HLT3.out _ e; have := HT.out; omega)) id) (by omega)
  have HTB := Lib.hid hTb
  clear hto hTb q8 q8' a1 a2 s0 s1 s2 s3 s4 s5 s6 s7 hset hmx
  go_wp2_with fail
  (with_reducible refine HTO.out.mono ?_)
  rintro r w3 ⟨rfl, q9, u3⟩
  have hT3 := u3.heap HTB.out (show ¬ t + 1 = rm by have := HT.out; have := HQ0.out.room.lt; omega)
  have t0 : w3.cell? ⟨t + 1, 0, none⟩ = some (.int .i64 0) := cell_of_block hT3 rfl
  have t1 : w3.cell? ⟨t + 1, 1, none⟩ = some (.int .i64 0) := cell_of_block hT3 rfl
  have f0 : w3.frozen? ⟨t + 1, 0, none⟩ = false := free_of_block hT3
  have f1 : w3.frozen? ⟨t + 1, 1, none⟩ = false := free_of_block hT3
  have Q9 := Lib.hid q9
  clear q9
  go_wp2_with fail
  have hS := set2_heap hT3 (.int .i64 (P.length : Int)) (.int .i64 (fr : Int))
  have hU := set2_upd (Upd.refl (fun g => g = t + 1) w3) (b := t + 1) (fun _ => rfl) (.int .i64 (P.length : Int)) (.int .i64 (fr : Int))
  have j0 := cell_of_block hS (i := 0) rfl
  have j1 := cell_of_block hS (i := 1) rfl
  have hqf := Q9.out.other hT3 (by decide) hU
  have hpf : PoolAt (set2 w3 (t + 1) (.int .i64 (P.length : Int)) (.int .i64 (fr : Int))) pool l' := by
   have g1 := HPZ.out.upd (S := fun _ => False) (Upd.of_drewN 1) id
   have g2 := g1.upd u2 (block_ne g1.2 (HQ7.out.pages (N2, []) (List.mem_of_getElem? HX.out)).1.choose_spec.1.2 (by decide))
   have g3 : PoolAt w3 pool l' := g2.upd u3 (fun e => by subst e; exact hkp HQ0.out.cr)
   exact g3.upd hU (block_ne g3.2 hT3 (by decide))
  have huf : Upd (fun b => c b = k ∨ b = pool) w (set2 w3 (t + 1) (.int .i64 (P.length : Int)) (.int .i64 (fr : Int))) := by
   have g0 : Upd (fun b => b = pool ∨ b = h ∨ (Value.slice la P.length lc).ownBlock = some b) w w7 := (Upd.same (hal.trans (hb3.mono hal.size))).trans_new HTT.out (fun _ _ e => e)
   have g1 : Upd (fun b => b = pool ∨ b = h ∨ (Value.slice la P.length lc).ownBlock = some b ∨ b = rm) w w3 :=
    ((g0.mono (T := fun b => b = pool ∨ b = h ∨ (Value.slice la P.length lc).ownBlock = some b ∨ b = rm) (fun b _ e => by rcases e with e | e | e <;> simp [e])).drewN 1).trans_new ((u2.mono (T := fun b => b = N2 ∨ b = rm) (fun b _ e => .inl e)).trans (u3.mono (fun b _ e => .inr e))) (fun b hb e => by
     rcases e with e | e
     · omega
     · exact .inr (.inr (.inr e)))
   have g2 := g1.trans_new hU (T := fun b => b = t + 1) (fun b hb e => by have := HT.out; omega)
   exact g2.mono (fun b _ e => by
    rcases e with e | e | e | e
    · exact .inr e
    · exact .inl (e ▸ HQ0.out.ch)
    · exact .inl (HQ0.out.cl b e)
    · exact .inl (e ▸ HQ0.out.cr))
  clear t0 t1 f0 f1
  change bodyPost _ _ _ _ _ (set2 w3 (t + 1) (.int .i64 (P.length : Int)) (.int .i64 (fr : Int)))
  generalize (set2 w3 (t + 1) (.int .i64 (P.length : Int)) (.int .i64 (fr : Int))) = w6 at *
  have hfr0 : fr = 0 := by rw [HFR.out]; rfl
  refine bodyPost_ret (v := .tuple #[.agg #[.int .i64 (P.length : Int), .int .i64 (fr : Int)], .int .i64 0]) (by simp [results, Tryz.results328, go_sem, j0, j1]) rfl ⟨P.length, fr, _, _, l', rfl, .inr ⟨?_, rfl, hfr0, rfl, N2, rfl⟩, hqf, hpf, huf⟩
  exact hf
end
end Go.Proofs.YtnkjnclpakfgnaaGreatDoor
