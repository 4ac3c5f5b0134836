/- Package tree: the order of entries, told in full. · What a plug may do to the world; the store's state, as the world bears it. · The plugs of the log and of snapshots are right. No conditions. -/
import Derived.Test.YtnkjnclpakfgnaaGreatDoorMt1
import Derived.Test.YtnkjnclpakfgnaaGreatDoorMa8
import Derived.Test.YtnkjnclpakfgnaaGreatDoorMb6
import Derived.Test.YtnkjnclpakfgnaaGreatDoorMb2
namespace Go.Proofs.YtnkjnclpakfgnaaGreatDoor
open Go.RowKit
set_option maxRecDepth 100000
/-- Byte by byte. -/
def lexU : List UInt8 → List UInt8 → Int
  | a :: l, b :: m => if a = b then lexU l m else if a < b then -1 else 1
  | _, _ => 0
theorem find_lex : ∀ (l m : List UInt8), l.length = m.length → ∀ (f g : Nat → UInt8), (∀ i, f i = l[i]!) → (∀ i, g i = m[i]!) →
    (match (List.range l.length).find? fun i => f i != g i with | some i => if f i < g i then (-1 : Int) else 1 | none => 0) = lexU l m
  | [], [], _, _, _, _, _ => rfl
  | [], _ :: _, h, _, _, _, _ => by simp at h
  | _ :: _, [], h, _, _, _, _ => by simp at h
  | a :: l, b :: m, h, f, g, hf, hg => by
    have h0 : f 0 = a := by rw [hf]; rfl
    have h1 : g 0 = b := by rw [hg]; rfl
    have ih := find_lex l m (by simpa using h) (fun i => f (i + 1)) (fun i => g (i + 1)) (fun i => by rw [hf]; simp) (fun i => by rw [hg]; simp)
    rw [List.length_cons, List.range_succ_eq_map, List.find?_cons, h0, h1, List.find?_map]
    unfold lexU
    by_cases e : a = b
    · rw [if_pos e]
      have e' : (a != b) = false := by simp [e]
      rw [e', ← ih]
      simp only [Function.comp_def, Nat.succ_eq_add_one]
      cases (List.range l.length).find? fun i => f (i + 1) != g (i + 1) <;> rfl
    · rw [if_neg e]
      have e' : (a != b) = true := by simp [e]
      rw [e']
      simp only [h0, h1]
theorem cmp_lex (A B : ByteArray) (h : A.size = B.size) : Extern.BytealgCompare.cmp A B = lexU A.data.toList B.data.toList := by
  obtain ⟨⟨l⟩⟩ := A; obtain ⟨⟨m⟩⟩ := B
  have h : l.length = m.length := h
  unfold Extern.BytealgCompare.cmp
  have hs1 : (ByteArray.mk (Array.mk l)).size = l.length := rfl
  have hs2 : (ByteArray.mk (Array.mk m)).size = m.length := rfl
  rw [hs1, hs2, Nat.min_eq_left (by omega), if_neg (by omega), if_neg (by omega)]
  exact find_lex l m h (fun i => (ByteArray.mk (Array.mk l))[i]!) (fun i => (ByteArray.mk (Array.mk m))[i]!) (fun i => by
    by_cases hi : i < l.length
    · rw [getElem!_pos _ i (by exact hi), getElem!_pos _ i hi]; rfl
    · rw [getElem!_neg _ i (by exact hi), getElem!_neg _ i hi]) (fun i => by
    by_cases hi : i < m.length
    · rw [getElem!_pos _ i (by exact hi), getElem!_pos _ i hi]; rfl
    · rw [getElem!_neg _ i (by exact hi), getElem!_neg _ i hi])
/-- Digits, the greatest first. -/
def bigL : List Nat → Nat
  | [] => 0
  | d :: l => d * 256 ^ l.length + bigL l
theorem bigL_lt : ∀ {l : List Nat}, (∀ d ∈ l, d < 256) → bigL l < 256 ^ l.length
  | [], _ => by simp [bigL]
  | d :: l, h => by
    have h1 := bigL_lt (l := l) fun x hx => h x (List.mem_cons_of_mem _ hx)
    have h2 := h d (List.mem_cons_self ..)
    simp only [bigL, List.length_cons, Nat.pow_succ]
    have : (d + 1) * 256 ^ l.length ≤ 256 * 256 ^ l.length := Nat.mul_le_mul_right _ (by omega)
    rw [Nat.add_mul, Nat.one_mul] at this
    omega
theorem toU_inj {a b : Nat} (ha : a < 256) (hb : b < 256) : (a.toUInt8 = b.toUInt8 ↔ a = b) ∧ (a.toUInt8 < b.toUInt8 ↔ a < b) := by
  have e1 : a.toUInt8.toNat = a := by simp [Nat.toUInt8]; omega
  have e2 : b.toUInt8.toNat = b := by simp [Nat.toUInt8]; omega
  constructor
  · rw [← UInt8.toNat_inj, e1, e2]
  · rw [UInt8.lt_iff_toNat_lt, e1, e2]
/-- The order of two numbers. -/
def sgnI (x y : Int) : Int := if x < y then -1 else if y < x then 1 else 0
theorem lex_big : ∀ {l m : List Nat}, l.length = m.length → (∀ d ∈ l, d < 256) → (∀ d ∈ m, d < 256) → lexU (l.map Nat.toUInt8) (m.map Nat.toUInt8) = sgnI (bigL l) (bigL m)
  | [], [], _, _, _ => rfl
  | [], _ :: _, h, _, _ => by simp at h
  | _ :: _, [], h, _, _ => by simp at h
  | a :: l, b :: m, h, hl, hm => by
    have hlen : l.length = m.length := by simpa using h
    have ih := lex_big hlen (fun x hx => hl x (List.mem_cons_of_mem _ hx)) (fun x hx => hm x (List.mem_cons_of_mem _ hx))
    have b1 := bigL_lt fun x hx => hl x (List.mem_cons_of_mem _ hx)
    have b2 := bigL_lt fun x hx => hm x (List.mem_cons_of_mem _ hx)
    obtain ⟨e1, e2⟩ := toU_inj (hl a (List.mem_cons_self ..)) (hm b (List.mem_cons_self ..))
    simp only [List.map_cons, lexU, bigL, ← hlen]
    rw [← hlen] at b2
    generalize 256 ^ l.length = q at *
    by_cases e : a = b
    · rw [if_pos (e1.2 e), ih, e]
      unfold sgnI
      split <;> split <;> first | rfl | (split <;> omega) | omega
    · rw [if_neg (fun x => e (e1.1 x))]
      unfold sgnI
      by_cases e3 : a < b
      · rw [if_pos (e2.2 e3)]
        have : (a + 1) * q ≤ b * q := Nat.mul_le_mul_right _ e3
        rw [Nat.add_mul, Nat.one_mul] at this
        rw [if_pos (by omega)]
      · rw [if_neg (fun x => e3 (e2.1 x))]
        have : (b + 1) * q ≤ a * q := Nat.mul_le_mul_right _ (by omega)
        rw [Nat.add_mul, Nat.one_mul] at this
        rw [if_neg (by omega), if_pos (by omega)]
/-- A number's key. -/
def keyB (n : Int) : List Nat := 3 :: (List.range 8).map fun i => (n + 9223372036854775808).toNat / 256 ^ (7 - i) % 256
theorem keyB_length (n : Int) : (keyB n).length = 9 := by simp [keyB]
theorem keyB_lt (n : Int) : ∀ d ∈ keyB n, d < 256 := by
  intro d hd
  simp only [keyB, List.mem_cons, List.mem_map] at hd
  rcases hd with rfl | ⟨i, _, rfl⟩
  · decide
  · exact Nat.mod_lt _ (by decide)
theorem keyB_big {n : Int} (h1 : -9223372036854775808 ≤ n) (h2 : n < 9223372036854775808) : (bigL (keyB n) : Int) = 3 * 256 ^ 8 + (n + 9223372036854775808) := by
  obtain ⟨u, hu⟩ : ∃ u, u = (n + 9223372036854775808).toNat := ⟨_, rfl⟩
  have hu2 : u < 18446744073709551616 := by omega
  have : (n + 9223372036854775808) = (u : Int) := by omega
  rw [this]
  simp only [keyB, ← hu, show List.range 8 = [0, 1, 2, 3, 4, 5, 6, 7] from rfl, List.map_cons, List.map_nil, bigL, List.length_cons, List.length_nil]
  simp only [Nat.reduceAdd, Nat.reduceSub, Nat.reducePow, Nat.reduceMul, Nat.pow_zero, Nat.mul_one, Nat.div_one, Nat.add_zero, Int.reducePow, Int.reduceMul]
  omega
theorem key_cmp {n m : Int} (h1 : -9223372036854775808 ≤ n) (h2 : n < 9223372036854775808) (h3 : -9223372036854775808 ≤ m) (h4 : m < 9223372036854775808) : lexU ((keyB n).map Nat.toUInt8) ((keyB m).map Nat.toUInt8) = sgnI n m := by
  rw [lex_big (by rw [keyB_length, keyB_length]) (keyB_lt n) (keyB_lt m), keyB_big h1 h2, keyB_big h3 h4]
  unfold sgnI
  split <;> split <;> first | rfl | (split <;> omega) | omega

theorem run_loadBytesX {P : Program} (w : World) (b : Nat) : ∀ (l : List Nat) (o : Nat) (acc : ByteArray), (∀ (j x : Nat), l[j]? = some x → w.cell? ⟨b, o + j, none⟩ = some (.int .u8 (x : Int))) → ∃ s, (Extern.Bytes.loadBytes ⟨b, o, none⟩ l.length acc).run P w = .ok s w ∧ s.data.toList = acc.data.toList ++ l.map Nat.toUInt8
 | [], o, acc, _ => ⟨acc, by simp [Extern.Bytes.loadBytes], by simp⟩
 | x :: l, o, acc, h => by
  obtain ⟨s, hs, he⟩ := run_loadBytesX (P := P) w b l (o + 1) (acc.push ((x : Int).toNat.toUInt8)) (fun j y hj => by
   rw [show o + 1 + j = o + (j + 1) by omega]; exact h (j + 1) y (by simpa using hj))
  refine ⟨s, ?_, by rw [he]; simp⟩
  have hx := h 0 x rfl
  rw [List.length_cons]
  unfold Extern.Bytes.loadBytes
  rw [Nat.add_zero] at hx
  rw [add_atn]
  simp only [Sem.run_bind, run_load, hx, Result.andThen_ok]
  exact hs
theorem run_bytesOfX {P : Program} {w : World} {d : Value} {l : List Nat} (h : Bs w d l) : ∃ s, (Extern.Bytes.bytesOf d).run P w = .ok s w ∧ s.data.toList = l.map Nat.toUInt8 := by
 obtain ⟨_, _, b, o, cap, rfl, _, hc⟩ := h
 obtain ⟨s, h1, h2⟩ := run_loadBytesX (P := P) w b l o .empty (fun j x hj => hc.2 j x hj)
 exact ⟨s, h1, by simpa using h2⟩
theorem compareX {w : World} {d e : Value} {l m : List Nat} (hd : Bs w d l) (he : Bs w e m) (hlen : l.length = m.length) : (callFunc 207 #[d, e]).run Tryz.prog w = .ok (.value (.int .i64 (lexU (l.map Nat.toUInt8) (m.map Nat.toUInt8)))) w := by
 obtain ⟨s, hs, es⟩ := run_bytesOfX (P := Tryz.prog) hd
 obtain ⟨u, hu, eu⟩ := run_bytesOfX (P := Tryz.prog) he
 have hz : s.size = u.size := by
  have e1 := congrArg List.length es; have e2 := congrArg List.length eu
  simp only [Array.length_toList, List.length_map] at e1 e2
  show s.data.size = u.data.size
  omega
 rw [← es, ← eu, ← cmp_lex s u hz]
 rw [run_callFunc_extern (fn := Tryz.f207) (e := Extern.BytealgCompare.compare) Tryz.func207 (by kernel_rfl) (by kernel_rfl) (by kernel_rfl) (by kernel_rfl)]
 change (Sem.run Tryz.prog (do pure (goInt (Extern.BytealgCompare.cmp (← Extern.Bytes.bytesOf d) (← Extern.Bytes.bytesOf e)))) w).andThen _ = _
 simp only [Sem.run_bind, hs, hu, Result.andThen_ok, Sem.run_pure]
 rfl
theorem cmpiX (x y : Int) (w : World) : Calls Tryz.prog 361 #[.int .i64 x, .int .i64 y] w fun e w' => e = .returned (.int .i64 (sgnI x y)) ∧ w' = w := by
 have h1 := Lib.hid (nan_at x w)
 have h2 := Lib.hid (nan_at y w)
 rcases (by omega : x < y ∨ y ≤ x) with c | c
 · have d1 : decide (x < y) = true := by simp; omega
   have e1 : sgnI x y = -1 := if_pos c
   rw [e1]
   clear c
   go_enter Tryz.func361, Tryz.ntmps361
   go_wp2_with (first | (go_at_call 400; (with_reducible refine (flp h1.out).mono ?_); rintro e w1 ⟨rfl, rfl⟩) | (go_at_call 400; (with_reducible refine (flp h2.out).mono ?_); rintro e w1 ⟨rfl, rfl⟩))
   go_ret
   exact ⟨rfl, rfl⟩
 · have d1 : decide (x < y) = false := by simp; omega
   rcases (by omega : y < x ∨ x ≤ y) with c2 | c2
   · have d2 : decide (y < x) = true := by simp; omega
     have e1 : sgnI x y = 1 := by unfold sgnI; rw [if_neg (by omega), if_pos c2]
     rw [e1]
     clear c c2
     go_enter Tryz.func361, Tryz.ntmps361
     go_wp2_with (first | (go_at_call 400; (with_reducible refine (flp h1.out).mono ?_); rintro e w1 ⟨rfl, rfl⟩) | (go_at_call 400; (with_reducible refine (flp h2.out).mono ?_); rintro e w1 ⟨rfl, rfl⟩))
     go_ret
     exact ⟨rfl, rfl⟩
   · have d2 : decide (y < x) = false := by simp; omega
     have e1 : sgnI x y = 0 := by unfold sgnI; rw [if_neg (by omega), if_neg (by omega)]
     rw [e1]
     clear c c2
     go_enter Tryz.func361, Tryz.ntmps361
     go_wp2_with (first | (go_at_call 400; (with_reducible refine (flp h1.out).mono ?_); rintro e w1 ⟨rfl, rfl⟩) | (go_at_call 400; (with_reducible refine (flp h2.out).mono ?_); rintro e w1 ⟨rfl, rfl⟩))
     go_ret
     exact ⟨rfl, rfl⟩
theorem bcmpX {w : World} {d e : Value} {l m : List Nat} (hd : Bs w d l) (he : Bs w e m) (hlen : l.length = m.length) : Calls Tryz.prog 131 #[d, e] w fun r w' => r = .returned (.int .i64 (lexU (l.map Nat.toUInt8) (m.map Nat.toUInt8))) ∧ w' = w := by
 have hr := compareX hd he hlen
 generalize lexU (l.map Nat.toUInt8) (m.map Nat.toUInt8) = r at hr
 clear hd he
 go_enter Tryz.func131, Tryz.ntmps131
 go_wp2_with fail
 go_ret
 exact ⟨rfl, rfl⟩
/-- The first that isn't none. -/
def or3 (a b c : Int) : Int := if a = 0 then (if b = 0 then c else b) else a
theorem orX {w : World} {b c : Nat} {y0 y1 y2 : Int} (h0 : w.cell? ⟨b, 0, none⟩ = some (.int .i64 y0)) (h1 : w.cell? ⟨b, 1, none⟩ = some (.int .i64 y1)) (h2 : w.cell? ⟨b, 2, none⟩ = some (.int .i64 y2)) : Calls Tryz.prog 360 #[.slice (some ⟨b, 0, none⟩) 3 c] w fun e w' => e = .returned (.int .i64 (or3 y0 y1 y2)) ∧ w' = w := by
 have h : ∀ m, m < 3 → ∃ y : Int, w.cell? ⟨b, m, none⟩ = some (.int .i64 y) ∧ ([y0, y1, y2] : List Int)[m]? = some y := fun m hm => by
  match m, hm with
  | 0, _ => exact ⟨y0, h0, rfl⟩
  | 1, _ => exact ⟨y1, h1, rfl⟩
  | 2, _ => exact ⟨y2, h2, rfl⟩
 obtain ⟨z, hz⟩ : ∃ z, z = or3 y0 y1 y2 := ⟨_, rfl⟩
 have hd : ∀ (m : Nat) (y : Int), ([y0, y1, y2] : List Int)[m]? = some y → y ≠ 0 → (∀ k, k < m → ([y0, y1, y2] : List Int)[k]? = some 0) → y = z := fun m y hy hne hk => by
  subst hz
  match m, hy, hk with
  | 0, hy, hk => cases hy; unfold or3; rw [if_neg hne]
  | 1, hy, hk => cases hy; have e := Option.some.inj (hk 0 (by omega)); subst e; unfold or3; rw [if_pos rfl, if_neg hne]
  | 2, hy, hk => cases hy; have e := Option.some.inj (hk 0 (by omega)); have e' := Option.some.inj (hk 1 (by omega)); subst e; subst e'; unfold or3; rw [if_pos rfl, if_pos rfl]
  | m + 3, hy, _ => simp at hy
 have hd0 : (∀ k, k < 3 → ([y0, y1, y2] : List Int)[k]? = some 0) → z = 0 := fun hk => by
  have e := Option.some.inj (hk 0 (by omega)); have e' := Option.some.inj (hk 1 (by omega)); have e'' := Option.some.inj (hk 2 (by omega)); subst e; subst e'; subst e''; subst hz; rfl
 rw [← hz]
 have H := Lib.hid h; have HD := Lib.hid hd; have HD0 := Lib.hid hd0; clear h h0 h1 h2 hz hd hd0
 go_enter Tryz.func360, Tryz.ntmps360
 go_wp2_with fail
 go_loopw [8] (fun i wr => ∃ m : Nat, m ≤ 3 ∧ i = .int .i64 (m : Int) ∧ (∀ k, k < m → ([y0, y1, y2] : List Int)[k]? = some 0) ∧ wr = w) (fun i _ => 3 - (intOf i).toNat)
 case atStart => exact ⟨0, Nat.zero_le _, rfl, fun k hk => absurd hk (Nat.not_lt_zero k), rfl⟩
 case round =>
  obtain ⟨m, hm, rfl, hk, rfl⟩ := hrel
  by_cases hlt : m < 3
  · obtain ⟨y, hy, hyl⟩ := H.out m hlt
    rcases (by omega : y = 0 ∨ ¬ y = 0) with rfl | hx
    · go_wp2_with fail
      go_roundw
      case rel => exact ⟨m + 1, by omega, by go_num, fun k hk' => (by
       rcases Nat.lt_succ_iff_lt_or_eq.1 hk' with h | h
       · exact hk k h
       · rw [h]; exact hyl), by simp⟩
      case measure => simp [intOf]; omega
    · have hyz := HD.out m y hyl hx hk
      go_wp2_with fail
      go_ret
      exact ⟨by first | rfl | (rw [hyz]; rfl), rfl⟩
  · obtain rfl : m = 3 := by omega
    have hz0 := HD0.out hk
    go_wp2_with fail
    go_ret
    exact ⟨by rw [hz0]; rfl, rfl⟩
set_option maxHeartbeats 2000000 in
/-- Of two entries whose keys are numbers'. -/
theorem orderX {w : World} {d e : Value} {l m : List Nat} (hd : Bs w d l) (he : Bs w e m) (hlen : l.length = m.length) (p s p' s' : Int) : Calls Tryz.prog 323 #[entT d p s, entT e p' s'] w fun r w' => r = .returned (.int .i64 (or3 (lexU (l.map Nat.toUInt8) (m.map Nat.toUInt8)) (sgnI p p') (sgnI s s'))) ∧ Below w.heap.size w w' := by
 obtain ⟨wz, hwz⟩ : ∃ wz, wz = (w.alloc (.cells #[d, .int .i64 p, .int .i64 s] 145)).alloc (.cells #[e, .int .i64 p', .int .i64 s'] 145) := ⟨_, rfl⟩
 obtain ⟨t, ht⟩ : ∃ t, t = w.heap.size := ⟨_, rfl⟩
 have hal : Below w.heap.size w wz := by subst hwz; exact ((Below.refl _ _).alloc (Nat.le_refl _) _).alloc (by simp) _
 have hT0 : wz.heap[t]? = some (.cells #[d, .int .i64 p, .int .i64 s] 145 (0, 0)) := by subst hwz; subst ht; exact block_alloc (heap_new1 w _) _
 have hT1 : wz.heap[t + 1]? = some (.cells #[e, .int .i64 p', .int .i64 s'] 145 (0, 0)) := by
  subst hwz; subst ht
  have := heap_new1 (w.alloc (.cells #[d, .int .i64 p, .int .i64 s] 145)) (.cells #[e, .int .i64 p', .int .i64 s'] 145)
  simpa using this
 have h0 : Below wz.heap.size wz wz.drew := ⟨rfl, rfl, rfl, Nat.le_refl _, fun _ _ => rfl⟩
 have k0 : wz.drew.cell? ⟨t, 0, none⟩ = some d := cell_of_block hT0 rfl
 have k1 : wz.drew.cell? ⟨t, 1, none⟩ = some (.int .i64 p) := cell_of_block hT0 rfl
 have k2 : wz.drew.cell? ⟨t, 2, none⟩ = some (.int .i64 s) := cell_of_block hT0 rfl
 have k3 : wz.drew.cell? ⟨t + 1, 0, none⟩ = some e := cell_of_block hT1 rfl
 have k4 : wz.drew.cell? ⟨t + 1, 1, none⟩ = some (.int .i64 p') := cell_of_block hT1 rfl
 have k5 : wz.drew.cell? ⟨t + 1, 2, none⟩ = some (.int .i64 s') := cell_of_block hT1 rfl
 have HB := Lib.hid (bcmpX (w := wz.drew) ((Bs.same hd hal).drewN 1) ((Bs.same he hal).drewN 1) hlen)
 have HC := Lib.hid (cmpiX p p'); have HE := Lib.hid (cmpiX s s')
 generalize lexU (l.map Nat.toUInt8) (m.map Nat.toUInt8) = q1 at HB ⊢
 generalize sgnI p p' = q2 at HC ⊢
 generalize sgnI s s' = q3 at HE ⊢
 have hor : (∀ (w1 : World), Calls Tryz.prog 360 #[.slice (some ⟨w1.heap.size, 0, none⟩) 3 3] (w1.alloc (.cells #[.int .i64 q1, .int .i64 q2, .int .i64 q3] 3)).drew fun e w' => e = .returned (.int .i64 (or3 q1 q2 q3)) ∧ w' = (w1.alloc (.cells #[.int .i64 q1, .int .i64 q2, .int .i64 q3] 3)).drew) := (fun w1 => by
  have hb := heap_new1 w1 (.cells #[.int .i64 q1, .int .i64 q2, .int .i64 q3] 3)
  exact orX (cell_of_block hb rfl) (cell_of_block hb rfl) (cell_of_block hb rfl))
 have ha : ∀ o, Below wz.drew.heap.size wz.drew (wz.alloc o).drew := fun o => by
  have h := (Below.refl wz.heap.size wz).alloc (Nat.le_refl _) o
  exact ⟨h.os, h.tape, h.output, h.size, h.block⟩
 have HA := Lib.hid ha; clear ha
 have HOR := Lib.hid hor; have HT := Lib.hid ht; have HWZ := Lib.hid hwz; have HAL := Lib.hid hal; have H0 := Lib.hid h0
 unfold entT
 clear hor h0
 clear hd he ht hwz hal hT0 hT1
 go_enter Tryz.func323, Tryz.ntmps323
 go_wp2_with fail
 rw [← HWZ.out, ← HT.out]
 go_region_held3 (fun z => z.cell? ⟨t, 0, none⟩ = some d ∧ z.cell? ⟨t, 1, none⟩ = some (.int .i64 p) ∧ z.cell? ⟨t, 2, none⟩ = some (.int .i64 s) ∧ z.cell? ⟨t + 1, 0, none⟩ = some e ∧ z.cell? ⟨t + 1, 1, none⟩ = some (.int .i64 p') ∧ z.cell? ⟨t + 1, 2, none⟩ = some (.int .i64 s')) (first | (with_reducible exact ⟨k0, k1, k2, k3, k4, k5⟩) | exact ⟨keeper (HA.out _) k0, keeper (HA.out _) k1, keeper (HA.out _) k2, keeper (HA.out _) k3, keeper (HA.out _) k4, keeper (HA.out _) k5⟩)
  (first | (go_at_call 360; (with_reducible refine (flpE (HOR.out _)).mono ?_); rintro r wb ⟨rfl, rfl⟩) | (go_at_call 361; (with_reducible refine (flpE (HE.out _)).mono ?_); rintro r wb ⟨rfl, rfl⟩) | (go_at_call 361; (with_reducible refine (flpE (HC.out _)).mono ?_); rintro r wb ⟨rfl, rfl⟩) | (go_at_call 131; (with_reducible refine (flpE HB.out).mono ?_); rintro r wb ⟨rfl, rfl⟩))
 go_wp2_with fail
 go_ret
 exact ⟨rfl, HAL.out.trans ((below_drew ((HA.out _).mono (Nat.le_refl _))).mono HAL.out.size)⟩
end Go.Proofs.YtnkjnclpakfgnaaGreatDoor
namespace Go.Proofs.YtnkjnclpakfgnaaGreatDoor
namespace X

section
variable {I : Inv} {K : Keep} {E E' : Env} {H H' : T O} {nx nx' : Nat} {m m' : I.M} {w w' : World}
/-- A call that writes the state's blocks alone, and makes new ones. -/
theorem Sim.plug (h : Sim I K E H nx m w) {F F' : Nat → Prop} (hG : ∀ b, F b → K.G b = none) (hl : ∀ {id o b c}, Live H id o → E.blk id = some (b, c) → ¬ F b) (hu : Upd F w w') (hle : E.le E') (hnx : nx ≤ nx')
    (hfr : ∀ id, nx' ≤ id → E'.blk id = none) (htop : E'.top = nx') (hinv : I.inv m' E' w' F') (hF : ∀ b, F' b → F b ∨ w.heap.size ≤ b) : Sim I K E' H nx' m' w' := by
  have hold : ∀ {id o b c}, Live H id o → E'.blk id = some (b, c) → E.blk id = some (b, c) := fun l e => by
    obtain ⟨b0, c0, ob, h1, _⟩ := h.heap l
    have := hle.blk h1
    rw [e] at this; cases this; exact h1
  have hlt : ∀ {b : Nat} {x : Obj}, w.heap[b]? = some x → b < w.heap.size := fun hb => lt_of_block hb
  refine { os := hu.os.trans h.os, tape := hu.tape.trans h.tape, output := hu.output.trans h.output, size := Nat.le_trans h.size hu.size, fresh := hfr, low := Nat.le_trans h.low hnx, top := htop
           glob := fun g hg => ?_, heap := fun l => ?_, inj := fun l l' e e' => h.inj l l' (hold l e) (hold l' e'), frame := fun {b x} g => ?_, apart := fun l e => h.apart l (hold l e), inv := ⟨F', hinv, fun b hb => ?_, fun l e hb => ?_⟩ }
  · obtain ⟨n, hn⟩ := h.glob g hg
    exact ⟨n, hle.blk hn⟩
  · obtain ⟨b, c, ob, h1, h2, h3⟩ := h.heap l
    exact ⟨b, c, ob, hle.blk h1, hu.heap h2 (hl l h1), h3.mono hle⟩
  · refine hu.heap (h.frame g) (fun hb => ?_)
    rw [hG b hb] at g; cases g
  · rcases hF b hb with hb | hb
    · exact hG b hb
    · cases hx : K.G b with
      | none => rfl
      | some x => have := hlt (h.frame hx); omega
  · have e0 := hold l e
    rcases hF _ hb with hb | hb
    · exact hl l e0 hb
    · obtain ⟨x, hx, _⟩ := h.at l e0
      have := hlt hx; omega

/-- A new block that a call has made, taken in under a name. -/
theorem Sim.take (h : Sim I K E H nx m w) {F : Nat → Prop} (hF : I.inv m E w F) (hG : ∀ b, F b → K.G b = none) (hl : ∀ {id o b c}, Live H id o → E.blk id = some (b, c) → ¬ F b) {b : Nat} {c : Nat × Nat} {o : O} {ob : Obj}
    (hb : w.heap[b]? = some ob) (hn : ∀ {id o c}, Live H id o → ¬ E.blk id = some (b, c)) (hbG : K.G b = none) (hbF : ¬ F b) (ho : OR (E.bind nx b c) o c ob) (hs : hset H nx o = some H') :
    E.le (E.bind nx b c) ∧ Sim I K (E.bind nx b c) H' (nx + 1) m w := by
  have hnn := h.fresh nx (Nat.le_refl _)
  have hle : E.le (E.bind nx b c) := Env.le_bind hnn (Nat.le_of_eq h.top)
  have hne : ∀ {id p}, Live H id p → id ≠ nx := fun l e => by have := h.live_lt l; omega
  refine ⟨hle, { h with
    fresh := fun id hid => by rw [Env.bind_ne (by omega)]; exact h.fresh id (by omega)
    low := Nat.le_succ_of_le h.low
    top := by show max E.top (nx + 1) = nx + 1; rw [h.top]; exact Nat.max_eq_right (Nat.le_succ _)
    glob := fun g hg => by rw [Env.bind_ne (by have := h.low; omega)]; exact h.glob g hg
    heap := fun l => ?_
    inj := fun l l' e e' => ?_
    apart := fun l e => ?_
    inv := ⟨F, I.loc hF hle.sub rfl (Nat.le_refl _) (fun _ _ => rfl), hG, fun l e => ?_⟩ }⟩
  · rcases (live_hset hs).1 l with ⟨rfl, rfl, _⟩ | ⟨hne', hl'⟩
    · exact ⟨_, _, ob, Env.bind_self .., hb, ho⟩
    · obtain ⟨b', c', x, h1, h2, h3⟩ := h.heap hl'
      exact ⟨b', c', x, hle.blk h1, h2, h3.mono hle⟩
  · rcases (live_hset hs).1 l with ⟨rfl, rfl, _⟩ | ⟨n1, q⟩ <;> rcases (live_hset hs).1 l' with ⟨rfl, rfl, _⟩ | ⟨n1', q'⟩
    · rfl
    · rw [Env.bind_self] at e; cases e
      rw [Env.bind_ne n1'] at e'; exact absurd e' (hn q')
    · rw [Env.bind_self] at e'; cases e'
      rw [Env.bind_ne n1] at e; exact absurd e (hn q)
    · rw [Env.bind_ne n1] at e; rw [Env.bind_ne n1'] at e'; exact h.inj q q' e e'
  · rcases (live_hset hs).1 l with ⟨rfl, rfl, _⟩ | ⟨n1, q⟩
    · rw [Env.bind_self] at e; cases e; exact hbG
    · rw [Env.bind_ne n1] at e; exact h.apart q e
  · rcases (live_hset hs).1 l with ⟨rfl, rfl, _⟩ | ⟨n1, q⟩
    · rw [Env.bind_self] at e; cases e; exact hbF
    · rw [Env.bind_ne n1] at e; exact hl q e
end

/-- One symbol more. -/
def Env.addS (E : Env) (s : Nat) (n : Int) : Env := ⟨E.blk, fun j => if j = s then some n else E.sy j, E.top⟩
theorem Env.le_addS {E : Env} {s : Nat} {n : Int} (h : E.sy s = none) : E.le (E.addS s n) :=
  ⟨id, fun {j x} hj => by
    have : j ≠ s := fun e => by rw [e, h] at hj; cases hj
    simp [Env.addS, this, hj], Nat.le_refl _, fun h _ => h⟩
theorem Env.addS_self (E : Env) (s : Nat) (n : Int) : (E.addS s n).sy s = some n := by simp [Env.addS]
theorem Env.addS_ne {E : Env} {s j : Nat} {n : Int} (h : j ≠ s) : (E.addS s n).sy j = E.sy j := by simp [Env.addS, h]

/-! ## the state in the world -/
/-- A row's bytes. -/
def rowB (l : List Int) : List Nat := 0 :: l.flatMap fun n => leB 8 (IntKind.u64.wrap n).toNat
/-- Numbers, as symbols or as they are. -/
def InR (n : Int) : Prop := -4611686018427387904 ≤ n ∧ n < 4611686018427387904
def Ints (E : Env) (l : List V) (ns : List Int) : Prop := VRs E l (ns.map (Value.int .i64)) ∧ ∀ n ∈ ns, InR n
/-- A key's number. -/
def KeyI (E : Env) (v : V) (n : Int) : Prop := VR E v (.int .i64 n) ∧ InR n
structure VerI (E : Env) (f : Int) (L : List Nat) (t : TxM) (r : RV) (v : Ver) : Prop where
  row : v.row = r.row
  mn1 : r.mn = true → t.run = true ∧ E.sy t.own = some (v.xmin : Int)
  mn0 : r.mn = false → stt f L v.xmin = 2
  mx0 : r.mx = 0 → v.xmax = 0
  mx1 : r.mx = 1 → t.run = true ∧ E.sy t.own = some (v.xmax : Int)
  mx2 : r.mx = 2 → v.xmax ≠ 0 ∧ stt f L v.xmax = 2
  mx : r.mx ≤ 2
  data : ∃ ns, Ints E r.vs ns ∧ v.data = rowB ns
def SlotI (E : Env) (f : Int) (L : List Nat) (t : TxM) : Option RV → Option Ver → Prop
  | none, none => True
  | some r, some v => VerI E f L t r v
  | _, _ => False
def PgI (E : Env) (f : Int) (L : List Nat) (t : TxM) (l : PgM) (S : List (Option Ver)) : Prop := l.length = S.length ∧ ∀ (i : Nat) (x : Option RV) (y : Option Ver), l[i]? = some x → S[i]? = some y → SlotI E f L t x y
def PgsI (E : Env) (f : Int) (L : List Nat) (t : TxM) (l : List PgM) (P : List PgS) : Prop := l.length = P.length ∧ ∀ (i : Nat) (x : PgM) (y : PgS), l[i]? = some x → P[i]? = some y → PgI E f L t x y.2
structure TxI (N : Int) (E : Env) (f : Int) (L : List Nat) (t : TxM) : Prop where
  lim : N ≤ 1099511627776
  one : 1 ≤ f
  fuel : f + L.length + t.fuel ≤ N
  idle : t.run = false → ∀ x, stt f L x ≠ 1
  runs : t.run = true → ∃ J, L = J ++ [1] ∧ (∀ x, stt f J x ≠ 1) ∧ E.sy t.own = some (f + J.length) ∧ E.sy t.sa = some (f + L.length) ∧ E.sy t.sb = some (f + L.length)
  old : ∀ s ∈ t.old, ∃ x, E.sy s = some x ∧ stt f L x = 2
  hor : ∀ s ∈ t.hor, ∃ x, E.sy s = some x ∧ f + L.length ≤ x
/-- The heap beside its pool. -/
def HpI (E : Env) (w : World) (c : Nat → Nat) (f : Int) (L : List Nat) (t : TxM) (h : HpM) : Prop :=
  (h.pool ≠ 0 → ∃ pp lf, E.blk h.pool = some (pp, (0, 0)) ∧ PoolAt w pp lf ∧ h.left ≤ lf ∧ c pp = 2 ∧ (h.hp ≠ 0 → ∃ hb lv rm P, E.blk h.hp = some (hb, (0, 0)) ∧ HeapAt c 3 w hb pp lv rm P ∧ P.length + lf ≤ 256 ∧ PgsI E f L t h.pgs P)) ∧
  (h.hp ≠ 0 → h.pool ≠ 0)
/-- Trees: what is known of them is theirs. -/
abbrev TreeP := Env → World → (Nat → Nat) → List Nat → Prop
/-- The tables of utf8, and where they lie. -/
def U8 (w : World) : Prop := Lib.Utf8Tabs 1 2 w ∧ (∃ L, w.heap[1]? = some (.cells L 488) ∧ L.size = 256) ∧ ∃ L, w.heap[2]? = some (.cells L 491) ∧ L.size = 32
structure GoodI (TP : TreeP) (N : Int) (m : MM) (E : Env) (w : World) (F : Nat → Prop) (c : Nat → Nat) (f : Int) (L : List Nat) : Prop where
  fc : ∀ b, F b ↔ c b ≠ 0
  out : ∀ b, w.heap.size ≤ b → c b = 0
  log : m.t.lg ≠ 0 → ∃ p, E.blk m.t.lg = some (p, (0, 0)) ∧ LogAt c 1 w p f L
  tx : TxI N E f L m.t
  heap : HpI E w c f L m.t m.h
  tree : TP E w c m.tr
  data : ∀ x ∈ m.dt, ∃ b o cap ns, E.blk x.1 = some (b, (o, cap)) ∧ Bs w (.slice (some ⟨b, o, none⟩) (1 + 8 * x.2.length) cap) (rowB ns) ∧ Ints E x.2 ns ∧ c b = 5
  keys : ∀ x ∈ m.ky, ∃ b o cap n, E.blk x.1 = some (b, (o, cap)) ∧ Bs w (.slice (some ⟨b, o, none⟩) 9 cap) (keyB n) ∧ KeyI E x.2 n ∧ c b = 5
  tabs : U8 w ∧ c 1 = 6 ∧ c 2 = 6
  ns : ∀ s, m.ns ≤ s → E.sy s = none
  bd : ∀ x ∈ m.bd, ∃ n, E.sy x.1 = some n ∧ -(x.2 : Int) ≤ n ∧ n ≤ x.2
  sm : ∀ x ∈ m.sm, ∃ a b, VR E x.2.1 (.int .i64 a) ∧ VR E x.2.2 (.int .i64 b) ∧ E.sy x.1 = some (a + b)
/-- What trees must bear. -/
structure TreeOk (TP : TreeP) : Prop where
  upd : ∀ {E E' : Env} {w w' : World} {c : Nat → Nat} {l : List Nat}, TP E w c l → E.sub E' → w.heap.size ≤ w'.heap.size → (∀ b, c b = 4 → w'.heap[b]? = w.heap[b]?) → TP E' w' c l
  recol : ∀ {E : Env} {w : World} {c c' : Nat → Nat} {l : List Nat}, TP E w c l → (∀ b, b < w.heap.size → c' b = c b) → TP E w c' l

section
variable {TP : TreeP} {N : Int} {m : MM} {E E' : Env} {w w' : World} {F F' : Nat → Prop} {c c' : Nat → Nat} {f : Int} {L : List Nat} {t : TxM}
theorem Ints.mono {l : List V} {ns : List Int} (h : Ints E l ns) (hs : E.sub E') : Ints E' l ns := ⟨VRs.mono' hs h.1, h.2⟩
theorem KeyI.mono {v : V} {n : Int} (h : KeyI E v n) (hs : E.sub E') : KeyI E' v n := ⟨h.1.mono' hs, h.2⟩
theorem VerI.mono {r : RV} {v : Ver} (h : VerI E f L t r v) (hs : E.sub E') : VerI E' f L t r v :=
  { h with mn1 := fun e => ⟨(h.mn1 e).1, hs.sy (h.mn1 e).2⟩, mx1 := fun e => ⟨(h.mx1 e).1, hs.sy (h.mx1 e).2⟩, data := let ⟨ns, a, b⟩ := h.data; ⟨ns, a.mono hs, b⟩ }
theorem SlotI.mono {r : Option RV} {v : Option Ver} (h : SlotI E f L t r v) (hs : E.sub E') : SlotI E' f L t r v := by
  cases r <;> cases v <;> first | exact h | exact VerI.mono h hs
theorem PgI.mono {l : PgM} {S : List (Option Ver)} (h : PgI E f L t l S) (hs : E.sub E') : PgI E' f L t l S := ⟨h.1, fun i x y a b => (h.2 i x y a b).mono hs⟩
theorem PgsI.mono {l : List PgM} {P : List PgS} (h : PgsI E f L t l P) (hs : E.sub E') : PgsI E' f L t l P := ⟨h.1, fun i x y a b => (h.2 i x y a b).mono hs⟩
theorem TxI.mono (h : TxI N E f L t) (hs : E.sub E') : TxI N E' f L t :=
  { h with runs := fun e => let ⟨J, a, b, x, y, z⟩ := h.runs e; ⟨J, a, b, hs.sy x, hs.sy y, hs.sy z⟩, old := fun s hm => let ⟨x, a, b⟩ := h.old s hm; ⟨x, hs.sy a, b⟩, hor := fun s hm => let ⟨x, a, b⟩ := h.hor s hm; ⟨x, hs.sy a, b⟩ }
theorem HpI.upd {S : Nat → Prop} {h : HpM} (q : HpI E w c f L t h) (hs : E.sub E') (u : Upd S w w') (hS : ∀ b, c b = 2 ∨ c b = 3 → ¬ S b) : HpI E' w' c f L t h :=
  ⟨fun e => by
    obtain ⟨pp, lf, a1, a2, a3, a4, a5⟩ := q.1 e
    refine ⟨pp, lf, hs.blk a1, a2.upd u (hS pp (.inl a4)), a3, a4, fun e' => ?_⟩
    obtain ⟨hb, lv, rm, P, b1, b2, b3, b4⟩ := a5 e'
    exact ⟨hb, lv, rm, P, hs.blk b1, b2.upd u (fun b hb => hS b (.inr hb)), b3, b4.mono hs⟩, q.2⟩
theorem HpI.recol {h : HpM} (q : HpI E w c f L t h) (hc : ∀ b, b < w.heap.size → c' b = c b) : HpI E w c' f L t h :=
  ⟨fun e => by
    obtain ⟨pp, lf, a1, a2, a3, a4, a5⟩ := q.1 e
    refine ⟨pp, lf, a1, a2, a3, by rw [hc pp (lt_of_block a2.2)]; exact a4, fun e' => ?_⟩
    obtain ⟨hb, lv, rm, P, b1, b2, b3, b4⟩ := a5 e'
    exact ⟨hb, lv, rm, P, b1, HeapR.recol b2 hc, b3, b4⟩, q.2⟩
theorem utf8_upd {S : Nat → Prop} (h : U8 w) (u : Upd S w w') (h1 : ¬ S 1) (h2 : ¬ S 2) : U8 w' :=
  ⟨⟨fun x hx => u.cell (h.1.1 x hx) h1, fun i hi => ⟨u.cell (h.1.2 i hi).1 h2, u.cell (h.1.2 i hi).2 h2⟩⟩,
    let ⟨L, a, b⟩ := h.2.1; ⟨L, u.heap a h1, b⟩, let ⟨L, a, b⟩ := h.2.2; ⟨L, u.heap a h2, b⟩⟩

theorem HpI.heq {h : HpM} {o : Os} {tp : Nat → Question → Nat} {ou : Array (Nat × ByteArray)} (q : HpI E { w with os := o, tape := tp, output := ou } c f L t h) : HpI E w c f L t h :=
  ⟨fun e => by
    obtain ⟨pp, lf, a1, a2, a3, a4, a5⟩ := q.1 e
    refine ⟨pp, lf, a1, a2, a3, a4, fun e' => ?_⟩
    obtain ⟨hb, lv, rm, P, b1, b2, b3, b4⟩ := a5 e'
    exact ⟨hb, lv, rm, P, b1, ⟨b2.blk, b2.row, b2.room, b2.pages, b2.once, b2.ch, b2.cr, b2.cl⟩, b3, b4⟩, q.2⟩

/-- Blocks of no colour are written, or new ones are made. -/
theorem GoodI.keepN (hT : TreeOk TP) {S : Nat → Prop} (n : Nat) (h : GoodI TP N m E w F c f L) (hs : E.sub E') (hy : ∀ s, n ≤ s → E'.sy s = none) (u : Upd S w w') (hS : ∀ b, c b ≠ 0 → ¬ S b) : GoodI TP N { m with ns := n } E' w' F c f L where
  fc := h.fc
  out := fun b hb => h.out b (Nat.le_trans u.size hb)
  log := fun e => let ⟨p, a, b⟩ := h.log e; ⟨p, hs.blk a, b.upd u (fun x hx => hS x (by omega))⟩
  tx := h.tx.mono hs
  heap := h.heap.upd hs u (fun b hb => hS b (by omega))
  tree := hT.upd h.tree hs u.size (fun b hb => u.block b (Nat.lt_of_not_le (fun x => by have := h.out b x; omega)) (hS b (by omega)))
  data := fun x hx => by
    obtain ⟨b, o, cap, ns, a1, a2, a3, a4⟩ := h.data x hx
    exact ⟨b, o, cap, ns, hs.blk a1, a2.upd u (fun b' _ _ _ e => by cases e; exact hS b (by omega)), a3.mono hs, a4⟩
  keys := fun x hx => by
    obtain ⟨b, o, cap, l, a1, a2, a3, a4⟩ := h.keys x hx
    exact ⟨b, o, cap, l, hs.blk a1, a2.upd u (fun b' _ _ _ e => by cases e; exact hS b (by omega)), a3.mono hs, a4⟩
  tabs := ⟨utf8_upd h.tabs.1 u (hS 1 (by have := h.tabs.2.1; omega)) (hS 2 (by have := h.tabs.2.2; omega)), h.tabs.2⟩
  ns := hy
  bd := fun x hx => let ⟨n, a, b⟩ := h.bd x hx; ⟨n, hs.sy a, b⟩
  sm := fun x hx => let ⟨a, b, p, q, r⟩ := h.sm x hx; ⟨a, b, p.mono' hs, q.mono' hs, hs.sy r⟩
theorem GoodI.keep (hT : TreeOk TP) {S : Nat → Prop} (h : GoodI TP N m E w F c f L) (hs : E.sub E') (hy : E'.sy = E.sy) (u : Upd S w w') (hS : ∀ b, c b ≠ 0 → ¬ S b) : GoodI TP N m E' w' F c f L :=
  h.keepN hT m.ns hs (fun s e => by rw [hy]; exact h.ns s e) u hS
/-- New blocks are k's. -/
def cut (c : Nat → Nat) (k : Nat) (w w' : World) : Nat → Nat := fun b => if b < w'.heap.size then (if b < w.heap.size then c b else k) else 0
theorem cut_old {k b : Nat} (hz : w.heap.size ≤ w'.heap.size) (hb : b < w.heap.size) : cut c k w w' b = c b := by unfold cut; rw [if_pos (Nat.lt_of_lt_of_le hb hz), if_pos hb]
theorem cut_col {k b : Nat} (hb : b < w'.heap.size) : cut c k w w' b = col c w.heap.size k b := by unfold cut col; rw [if_pos hb]
theorem cut_or {k b : Nat} : cut c k w w' b = 0 ∨ (b < w.heap.size ∧ cut c k w w' b = c b) ∨ (w.heap.size ≤ b ∧ cut c k w w' b = k) := by
  unfold cut
  split
  · split
    · exact .inr (.inl ⟨by assumption, rfl⟩)
    · exact .inr (.inr ⟨by omega, rfl⟩)
  · exact .inl rfl
/-- All but what k's blocks bear. -/
structure GoodB (TP : TreeP) (k : Nat) (N : Int) (m : MM) (E : Env) (w : World) (c : Nat → Nat) (f : Int) (L : List Nat) : Prop where
  out : ∀ b, w.heap.size ≤ b → c b = 0
  log : k ≠ 1 → m.t.lg ≠ 0 → ∃ p, E.blk m.t.lg = some (p, (0, 0)) ∧ LogAt c 1 w p f L
  tx : TxI N E f L m.t
  heap : k ≠ 2 → k ≠ 3 → HpI E w c f L m.t m.h
  tree : k ≠ 4 → TP E w c m.tr
  data : ∀ x ∈ m.dt, ∃ b o cap ns, E.blk x.1 = some (b, (o, cap)) ∧ Bs w (.slice (some ⟨b, o, none⟩) (1 + 8 * x.2.length) cap) (rowB ns) ∧ Ints E x.2 ns ∧ c b = 5
  keys : ∀ x ∈ m.ky, ∃ b o cap n, E.blk x.1 = some (b, (o, cap)) ∧ Bs w (.slice (some ⟨b, o, none⟩) 9 cap) (keyB n) ∧ KeyI E x.2 n ∧ c b = 5
  tabs : U8 w ∧ c 1 = 6 ∧ c 2 = 6
  bd : ∀ x ∈ m.bd, ∃ n, E.sy x.1 = some n ∧ -(x.2 : Int) ≤ n ∧ n ≤ x.2
  sm : ∀ x ∈ m.sm, ∃ a b, VR E x.2.1 (.int .i64 a) ∧ VR E x.2.2 (.int .i64 b) ∧ E.sy x.1 = some (a + b)
theorem bs_lt {w : World} {b o n cap : Nat} {l : List Nat} (h : Bs w (.slice (some ⟨b, o, none⟩) n cap) l) : b < w.heap.size := by
  obtain ⟨_, _, b', o', cap', e, hb, _⟩ := h
  cases e; exact hb
theorem GoodI.but2 (hT : TreeOk TP) {S : Nat → Prop} (k : Nat) (h : GoodI TP N m E w F c f L) (hs : E.sub E') (u : Upd S w w') (hS : ∀ b, c b ≠ 0 → S b → c b = k ∨ (c b = 2 ∧ k = 3)) (h5 : ∀ b, c b = 5 ∨ c b = 6 → ¬ S b) : GoodB TP k N m E' w' (cut c k w w') f L := by
  have hz := u.size
  have hS' : ∀ b j, j ≠ 0 → j ≠ k → (j = 2 → k ≠ 3) → cut c k w w' b = j → ¬ S b := fun b j j0 jk j2 e hb => by
    rcases @cut_or w w' c k b with h1 | ⟨_, h1⟩ | ⟨_, h1⟩
    · omega
    · rw [e] at h1
      rcases hS b (by omega) hb with h3 | ⟨h3, h4⟩
      · exact jk (by rw [h1]; exact h3)
      · exact j2 (by omega) h4
    · omega
  have ho : ∀ b, b < w.heap.size → cut c k w w' b = c b := fun b hb => cut_old hz hb
  exact {
    out := fun b hb => by unfold cut; rw [if_neg (by omega)]
    log := fun hk e => let ⟨p, a, b⟩ := h.log e; ⟨p, hs.blk a, (b.recol ho).upd u (fun x hx => hS' x 1 (by omega) (Ne.symm hk) (by omega) hx)⟩
    tx := h.tx.mono hs
    heap := fun k2 k3 => (h.heap.recol ho).upd hs u (fun b hb => hb.elim (hS' b 2 (by omega) (Ne.symm k2) (fun _ => k3)) (hS' b 3 (by omega) (Ne.symm k3) (by omega)))
    tree := fun k4 => hT.upd (hT.recol h.tree ho) hs hz (fun b hb => by
      rcases @cut_or w w' c k b with h1 | ⟨h2, h1⟩ | ⟨_, h1⟩
      · omega
      · exact u.block b h2 (hS' b 4 (by omega) (Ne.symm k4) (by omega) hb)
      · omega)
    data := fun x hx => by
      obtain ⟨b, o, cap, ns, a1, a2, a3, a4⟩ := h.data x hx
      exact ⟨b, o, cap, ns, hs.blk a1, a2.upd u (fun b' _ _ _ e => by cases e; exact h5 b (.inl a4)), a3.mono hs, by rw [ho b (bs_lt a2)]; exact a4⟩
    keys := fun x hx => by
      obtain ⟨b, o, cap, l, a1, a2, a3, a4⟩ := h.keys x hx
      exact ⟨b, o, cap, l, hs.blk a1, a2.upd u (fun b' _ _ _ e => by cases e; exact h5 b (.inl a4)), a3.mono hs, by rw [ho b (bs_lt a2)]; exact a4⟩
    tabs := ⟨utf8_upd h.tabs.1 u (h5 1 (.inr h.tabs.2.1)) (h5 2 (.inr h.tabs.2.2)), by rw [ho 1 (Nat.lt_of_not_le fun x => by have := h.out 1 x; have := h.tabs.2.1; omega)]; exact h.tabs.2.1, by rw [ho 2 (Nat.lt_of_not_le fun x => by have := h.out 2 x; have := h.tabs.2.2; omega)]; exact h.tabs.2.2⟩
    bd := fun x hx => let ⟨n, a, b⟩ := h.bd x hx; ⟨n, hs.sy a, b⟩
    sm := fun x hx => let ⟨a, b, p, q, r⟩ := h.sm x hx; ⟨a, b, p.mono' hs, q.mono' hs, hs.sy r⟩ }
theorem GoodI.but (hT : TreeOk TP) {S : Nat → Prop} (k : Nat) (h : GoodI TP N m E w F c f L) (hs : E.sub E') (u : Upd S w w') (hS : ∀ b, c b ≠ 0 → S b → c b = k) (h5 : ∀ b, c b = 5 ∨ c b = 6 → ¬ S b) : GoodB TP k N m E' w' (cut c k w w') f L :=
  h.but2 hT k hs u (fun b h1 h2 => .inl (hS b h1 h2)) h5
theorem GoodB.mk' {k : Nat} {m' : MM} (h : GoodB TP k N m E w c f L) {f' : Int} {L' : List Nat} (log : m'.t.lg ≠ 0 → ∃ p, E.blk m'.t.lg = some (p, (0, 0)) ∧ LogAt c 1 w p f' L') (tx : TxI N E f' L' m'.t) (heap : HpI E w c f' L' m'.t m'.h) (tree : TP E w c m'.tr)
    (hdt : m'.dt = m.dt) (hky : m'.ky = m.ky) (hbd : m'.bd = m.bd) (hsm : m'.sm = m.sm) (ns : ∀ s, m'.ns ≤ s → E.sy s = none) : GoodI TP N m' E w (fun b => c b ≠ 0) c f' L' :=
  { fc := fun _ => Iff.rfl, out := h.out, log := log, tx := tx, heap := heap, tree := tree, data := by rw [hdt]; exact h.data, keys := by rw [hky]; exact h.keys, tabs := h.tabs, ns := ns, bd := by rw [hbd]; exact h.bd, sm := by rw [hsm]; exact h.sm }
end

/-- The state as the executor's Inv. -/
def IN (TP : TreeP) (hT : TreeOk TP) (N : Int) : Inv where
  M := MM
  inv := fun m E w F => ∃ c f L, GoodI TP N m E w F c f L
  loc := fun {m E E' w w' F} h hs hy hz hF => by
    obtain ⟨c, f, L, g⟩ := h
    have u : Upd (fun b => ¬ F b) w { w' with os := w.os, tape := w.tape, output := w.output } := ⟨rfl, rfl, rfl, hz, fun b _ hb => hF b (Classical.not_not.1 hb)⟩
    have k := g.keep hT hs hy u (fun b hb => by rw [Classical.not_not]; exact (g.fc b).2 hb)
    exact ⟨c, f, L, { k with heap := k.heap.heq, tree := hT.upd g.tree hs hz (fun b hb => hF b ((g.fc b).2 (by omega))) }⟩
  lt := fun {m E w F b} h hb => by
    obtain ⟨c, f, L, g⟩ := h
    rcases Nat.lt_or_ge b w.heap.size with h | h
    · exact h
    · exact absurd (g.out b h) ((g.fc b).1 hb)
end X
end Go.Proofs.YtnkjnclpakfgnaaGreatDoor
namespace Go.Proofs.YtnkjnclpakfgnaaGreatDoor
namespace X
open Go.RowKit

/-- A call answers as said. -/
def Ans (I : Inv) (f : Nat) (args : List V) (s : S I.M) (v : V) (s' : S I.M) : Prop :=
  ∀ {K : Keep} {E : Env} {w : World} {A : Array Value}, Sim I K E s.H s.nx s.m w → VRs E args A.toList →
    Calls Tryz.prog f A w fun e w' => ∃ W E', e = .returned W ∧ E.le E' ∧ VR E' v W ∧ Sim I K E' s'.H s'.nx s'.m w'

theorem nm_ok {a b : Nat} (h : nm a b = true) : a = b ∧ b ≠ 0 := by
  unfold nm bq at h
  cases hb : Nat.beq a b with
  | false => rw [hb] at h; cases h
  | true => rw [hb] at h; exact ⟨Nat.eq_of_beq_eq_true hb, fun e => by rw [e] at h; cases h⟩
theorem args1 {E : Env} {a : V} {A : Array Value} (h : VRs E [a] A.toList) : ∃ x, A = #[x] ∧ VR E a x := by
  obtain ⟨x, m, e, h1, h2⟩ := h.head
  cases m with
  | nil => exact ⟨x, by rw [← Array.toArray_toList (xs := A), e], h1⟩
  | cons _ _ => exact absurd h2.1 (by simp)
theorem args2 {E : Env} {a b : V} {A : Array Value} (h : VRs E [a, b] A.toList) : ∃ x y, A = #[x, y] ∧ VR E a x ∧ VR E b y := by
  obtain ⟨x, m, e, h1, h2⟩ := h.head
  obtain ⟨y, m, rfl, h3, h4⟩ := h2.head
  cases m with
  | nil => exact ⟨x, y, by rw [← Array.toArray_toList (xs := A), e], h1, h3⟩
  | cons _ _ => exact absurd h4.1 (by simp)
theorem args3 {E : Env} {a b c : V} {A : Array Value} (h : VRs E [a, b, c] A.toList) : ∃ x y z, A = #[x, y, z] ∧ VR E a x ∧ VR E b y ∧ VR E c z := by
  obtain ⟨x, m, e, h1, h2⟩ := h.head
  obtain ⟨y, m, rfl, h3, h4⟩ := h2.head
  obtain ⟨z, m, rfl, h5, h6⟩ := h4.head
  cases m with
  | nil => exact ⟨x, y, z, by rw [← Array.toArray_toList (xs := A), e], h1, h3, h5⟩
  | cons _ _ => exact absurd h6.1 (by simp)
theorem ptr_at {E : Env} {id b : Nat} {c : Nat × Nat} {x : Value} (h : VR E (.ptr id 0) x) (hb : E.blk id = some (b, c)) (h0 : c.1 = 0) : x = .pointer (some ⟨b, 0, none⟩) := by
  cases h with
  | ptr h => rw [hb] at h; cases h; rw [h0]
section
variable {TP : TreeP} {hT : TreeOk TP} {N : Int}
/-- Nothing is written. -/
theorem ans_read {f : Nat} {args : List V} {s : SM} {v : V} (h : ∀ {K : Keep} {E : Env} {w : World} {A : Array Value} {F : Nat → Prop} {c : Nat → Nat} {f0 : Int} {L : List Nat}, Sim (IN TP hT N) K E s.H s.nx s.m w → GoodI TP N s.m E w F c f0 L → VRs E args A.toList →
    Calls Tryz.prog f A w fun e w' => ∃ W, e = .returned W ∧ VR E v W ∧ Below w.heap.size w w') : Ans (IN TP hT N) f args s v s := by
  intro K E w A hS hA
  obtain ⟨F, ⟨c, f0, L, g⟩, _, _⟩ := hS.inv
  refine (h hS g hA).mono ?_
  rintro e w' ⟨W, rfl, hv, hB⟩
  exact ⟨W, E, rfl, .refl E, hv, hS.below hB⟩

/-! ### what a number is -/
theorem xcl_ok {E : Env} {f : Int} {L : List Nat} {t : TxM} (ht : TxI N E f L t) {v : V} {k : Nat} {x : Value} (h : xcl t.run t.own t.old v = some k) (hv : VR E v x) :
    ∃ n, x = .int .u64 n ∧ ((k = 0 ∧ n = 0) ∨ (k = 1 ∧ t.run = true ∧ E.sy t.own = some n) ∨ (k = 2 ∧ stt f L n = 2)) := by
  obtain ⟨h0, hh⟩ := ck_eq h
  clear h
  obtain ⟨n, rfl⟩ := isKey_ok h0 hv
  refine ⟨n, rfl, ?_⟩
  revert hh
  intro h
  split at h <;> first | (cases h; done) | skip
  · obtain ⟨h1, h2⟩ := ck_eq h
    cases h2
    cases hv
    rw [ieq_eq] at h1
    exact .inl ⟨rfl, of_decide_eq_true h1⟩
  · rename_i s
    cases hv with
    | sym hv =>
      unfold bq at h
      cases hr : t.run with
      | false =>
        rw [hr] at h
        obtain ⟨h1, h2⟩ := ck_eq h
        cases h2
        obtain ⟨y, h3, h4⟩ := ht.old s (lmem_ok h1)
        rw [hv] at h3; cases h3
        exact .inr (.inr ⟨rfl, h4⟩)
      | true =>
        rw [hr] at h
        cases hb : Nat.beq s t.own with
        | true =>
          dsimp only at h
          rw [hb] at h; cases h
          rw [Nat.eq_of_beq_eq_true hb] at hv
          exact .inr (.inl ⟨rfl, rfl, hv⟩)
        | false =>
          dsimp only at h
          rw [hb] at h
          obtain ⟨h1, h2⟩ := ck_eq h
          cases h2
          obtain ⟨y, h3, h4⟩ := ht.old s (lmem_ok h1)
          rw [hv] at h3; cases h3
          exact .inr (.inr ⟨rfl, h4⟩)

theorem TxI.own1 {E : Env} {f : Int} {L : List Nat} {t : TxM} (ht : TxI N E f L t) (hf : 1 ≤ f) (hr : t.run = true) {n : Int} (hn : E.sy t.own = some n) : stt f L n = 1 ∧ n < f + L.length ∧ n ≠ 0 := by
  obtain ⟨J, rfl, _, h1, _⟩ := ht.runs hr
  rw [hn] at h1; cases h1
  refine ⟨?_, by simp; omega, by omega⟩
  rw [stt_in (by omega), show (f + (J.length : Int) - f).toNat = J.length by omega]
  simp

theorem pState_ok {args : List V} {s s' : SM} {v : V} (h : pState args s = some (v, s')) : Ans (IN TP hT N) 68 args s v s' := by
  unfold pState at h
  split at h <;> first | (cases h; done) | skip
  rename_i l o x H nx h0 lg fuel run own sa sb old hor tr dt ky ns bd sm
  obtain ⟨h1, h⟩ := ck_eq h
  obtain ⟨h2, h⟩ := ck_eq h
  obtain ⟨k, hk, h⟩ := ob_eq h
  rw [fN_eq] at h; cases h
  obtain ⟨rfl, hne⟩ := nm_ok h1
  obtain rfl : o = 0 := Nat.eq_of_beq_eq_true h2
  refine ans_read (fun {K E w A F c f0 L} hS g hA => ?_)
  obtain ⟨p, hp, hL⟩ := g.log hne
  obtain ⟨a, b, rfl, ha, hb⟩ := args2 hA
  obtain ⟨n, rfl, hn⟩ := xcl_ok g.tx hk hb
  rw [ptr_at ha hp rfl]
  refine (state_at hL n).mono ?_
  rintro e w' ⟨rfl, q, rfl⟩
  have e0 : stt f0 L n = k := by
    rcases hn with ⟨rfl, rfl⟩ | ⟨rfl, hr, ho⟩ | ⟨rfl, h2⟩
    · exact stt_lo (by have := hL.1; omega)
    · exact (g.tx.own1 hL.1 hr ho).1
    · exact h2
  rw [e0]
  exact ⟨_, rfl, .int _ _, below_drewN⟩

theorem sU_ok {E : Env} {v : V} {s : Nat} {x : Value} (h : sU v = some s) (hv : VR E v x) : ∃ n, x = .int .u64 n ∧ E.sy s = some n := by
  unfold sU at h
  split at h <;> first | (cases h; done) | skip
  obtain ⟨h1, h2⟩ := ck_eq h
  cases h2
  cases hv with
  | sym hv => exact ⟨_, by rw [kno_inj (k' := .u64) h1], hv⟩
theorem isI_ok {E : Env} {v : V} {x : Value} (h : isI v = true) (hv : VR E v x) : ∃ n, x = .int .i64 n := by
  unfold isI at h
  split at h <;> first | (cases h; done) | skip
  · cases hv; exact ⟨_, by rw [kno_inj (k' := .i64) h]⟩
  · cases hv; exact ⟨_, by rw [kno_inj (k' := .i64) h]⟩
theorem nK_ok {k0 : IntKind} {E : Env} {v : V} {n : Nat} {x : Value} (h : nK (kno k0) v = some n) (hv : VR E v x) : x = .int k0 n := by
  unfold nK at h
  split at h <;> first | (cases h; done) | skip
  obtain ⟨h1, h2⟩ := ck_eq h
  cases h2
  cases hv
  rw [kno_inj (k' := k0) h1]; rfl
theorem agg6 {E : Env} {a b c d e f : V} {X : Value} (h : VR E (.agg [a, b, c, d, e, f]) X) : ∃ x1 x2 x3 x4 x5 x6, X = .agg #[x1, x2, x3, x4, x5, x6] ∧ VR E a x1 ∧ VR E b x2 ∧ VR E c x3 ∧ VR E d x4 ∧ VR E e x5 ∧ VR E f x6 := by
  obtain ⟨L, rfl, h0⟩ := h.agg_inv
  clear h
  obtain ⟨x1, m, e1, p1, h⟩ := h0.head
  obtain ⟨x2, m, rfl, p2, h⟩ := h.head
  obtain ⟨x3, m, rfl, p3, h⟩ := h.head
  obtain ⟨x4, m, rfl, p4, h⟩ := h.head
  obtain ⟨x5, m, rfl, p5, h⟩ := h.head
  obtain ⟨x6, m, rfl, p6, h⟩ := h.head
  cases m with
  | nil => exact ⟨x1, x2, x3, x4, x5, x6, by rw [← Array.toArray_toList (xs := L), e1], p1, p2, p3, p4, p5, p6⟩
  | cons _ _ => exact absurd h.1 (by simp)
theorem agg4 {E : Env} {a b c d : V} {X : Value} (h : VR E (.agg [a, b, c, d]) X) : ∃ x1 x2 x3 x4, X = .agg #[x1, x2, x3, x4] ∧ VR E a x1 ∧ VR E b x2 ∧ VR E c x3 ∧ VR E d x4 := by
  obtain ⟨L, rfl, h0⟩ := h.agg_inv
  clear h
  obtain ⟨x1, m, e1, p1, h⟩ := h0.head
  obtain ⟨x2, m, rfl, p2, h⟩ := h.head
  obtain ⟨x3, m, rfl, p3, h⟩ := h.head
  obtain ⟨x4, m, rfl, p4, h⟩ := h.head
  cases m with
  | nil => exact ⟨x1, x2, x3, x4, by rw [← Array.toArray_toList (xs := L), e1], p1, p2, p3, p4⟩
  | cons _ _ => exact absurd h.1 (by simp)
theorem tupV_ok {E : Env} {v a b : V} {X : Value} (h : tupV v = some (a, b)) (hv : VR E v X) : ∃ row np ns d x y, X = .agg #[.int .u64 row, x, y, .int .i64 np, .int .i64 ns, d] ∧ VR E a x ∧ VR E b y := by
  unfold tupV at h
  split at h <;> first | (cases h; done) | skip
  obtain ⟨h1, h⟩ := ck_eq h
  obtain ⟨h2, h⟩ := ck_eq h
  obtain ⟨h3, h⟩ := ck_eq h
  obtain ⟨h4, h⟩ := ck_eq h
  cases h
  obtain ⟨x1, x2, x3, x4, x5, x6, rfl, p1, p2, p3, p4, p5, p6⟩ := agg6 hv
  obtain ⟨n1, rfl⟩ := isKey_ok h1 p1
  obtain ⟨n4, rfl⟩ := isI_ok h2 p4
  obtain ⟨n5, rfl⟩ := isI_ok h3 p5
  exact ⟨_, _, _, _, _, _, rfl, p2, p3⟩
theorem isSnap_ok {E : Env} {f : Int} {L : List Nat} {t : TxM} (ht : TxI N E f L t) {v : V} {q : Nat} {X : Value} (h : isSnap t.run t.own t.sa t.sb v = some q) (hv : VR E v X) :
    t.run = true ∧ ∃ J, L = J ++ [1] ∧ (∀ x, stt f J x ≠ 1) ∧ E.sy t.own = some (f + J.length) ∧ X = Snp.val ⟨f + J.length, f + L.length, f + L.length, []⟩ (.slice none 0 0) := by
  unfold isSnap at h
  split at h <;> first | (cases h; done) | skip
  obtain ⟨hr, h⟩ := ck_eq h
  obtain ⟨x, hx, h⟩ := ob_eq h
  obtain ⟨a, ha, h⟩ := ob_eq h
  obtain ⟨b, hb, h⟩ := ob_eq h
  obtain ⟨h1, h⟩ := ck_eq h
  obtain ⟨h2, h⟩ := ck_eq h
  obtain ⟨h3, h⟩ := ck_eq h
  obtain ⟨x1, x2, x3, x4, rfl, p1, p2, p3, p4⟩ := agg4 hv
  obtain ⟨n1, rfl, e1⟩ := sU_ok hx p1
  obtain ⟨n2, rfl, e2⟩ := sU_ok ha p2
  obtain ⟨n3, rfl, e3⟩ := sU_ok hb p3
  rw [Nat.eq_of_beq_eq_true h1] at e1
  rw [Nat.eq_of_beq_eq_true h2] at e2
  rw [Nat.eq_of_beq_eq_true h3] at e3
  obtain ⟨J, hJ, hj, k1, k2, k3⟩ := ht.runs hr
  rw [k1] at e1; rw [k2] at e2; rw [k3] at e3
  cases e1; cases e2; cases e3; cases p4
  exact ⟨hr, J, hJ, hj, k1, rfl⟩
/-- What a snapshot of the one that runs sees. -/
theorem sees_ok {E : Env} {f : Int} {L : List Nat} {t : TxM} (_ht : TxI N E f L t) (hf : 1 ≤ f) {J : List Nat} (_hJ : L = J ++ [1]) (ho : E.sy t.own = some (f + J.length)) {k : Nat} {n : Int}
    (hn : (k = 0 ∧ n = 0) ∨ (k = 1 ∧ t.run = true ∧ E.sy t.own = some n) ∨ (k = 2 ∧ stt f L n = 2)) : sees f L ⟨f + J.length, f + L.length, f + L.length, []⟩ n = bq (Nat.beq k 0) true false ∧ (k = 0 ↔ n = 0) := by
  unfold sees
  rcases hn with ⟨rfl, rfl⟩ | ⟨rfl, _, h⟩ | ⟨rfl, h⟩
  · refine ⟨?_, by simp⟩
    rw [show stt f L 0 = 0 from stt_lo (by omega), show ((0 : Int) == f + J.length) = false from beq_eq_false_iff_ne.2 (by omega)]
    simp [bq]
  · rw [ho] at h; cases h
    exact ⟨by simp; rfl, by constructor <;> intro h <;> omega⟩
  · have h1 : n < f + L.length := by
      rcases Int.lt_or_le n (f + L.length) with h2 | h2
      · exact h2
      · rw [stt_hi h2] at h; cases h
    have h2 : f ≤ n := by
      rcases Int.lt_or_le n f with h2 | h2
      · rw [stt_lo h2] at h; cases h
      · exact h2
    refine ⟨?_, by constructor <;> intro h <;> omega⟩
    rw [h]
    simp [h1]; rfl
theorem visC_eq {ka kb : Nat} {sa sb : Bool} {y : Int} (ha : sa = bq (Nat.beq ka 0) true false) (hb : sb = bq (Nat.beq kb 0) true false) (hy : kb = 0 ↔ y = 0) : (sa && (y == 0 || !sb)) = visC ka kb := by
  subst ha; subst hb
  unfold visC nq bq
  cases ka with
  | zero => rfl
  | succ ka =>
    cases kb with
    | zero => rw [hy.1 rfl]; rfl
    | succ kb =>
      have : ¬ y = 0 := fun e => by have := hy.2 e; omega
      have e : (y == 0) = false := beq_eq_false_iff_ne.2 this
      rw [e]; rfl

theorem pVis_ok {args : List V} {s s' : SM} {v : V} (h : pVis args s = some (v, s')) : Ans (IN TP hT N) 70 args s v s' := by
  unfold pVis at h
  split at h <;> first | (cases h; done) | skip
  rename_i l o sn tv H nx h0 lg fuel run own sa sb old hor tr dt ky ns bd sm
  obtain ⟨h1, h⟩ := ck_eq h
  obtain ⟨h2, h⟩ := ck_eq h
  obtain ⟨q, h3, h⟩ := ob_eq h
  obtain ⟨⟨a, b⟩, hab, h⟩ := ob_eq h
  obtain ⟨ca, hca, h⟩ := ob_eq h
  obtain ⟨cb, hcb, h⟩ := ob_eq h
  rw [fB_eq] at h; cases h
  obtain ⟨rfl, hne⟩ := nm_ok h1
  obtain rfl : o = 0 := Nat.eq_of_beq_eq_true h2
  refine ans_read (fun {K E w A F c f0 L} hS g hA => ?_)
  obtain ⟨p, hp, hL⟩ := g.log hne
  obtain ⟨x, y, z, rfl, hx, hy, hz⟩ := args3 hA
  rw [ptr_at hx hp rfl]
  obtain ⟨hr, J, hJ, hj, ho, rfl⟩ := isSnap_ok g.tx h3 hy
  obtain ⟨row, np, ns', d, xa, xb, rfl, va, vb⟩ := tupV_ok hab hz
  obtain ⟨na, rfl, hna⟩ := xcl_ok g.tx hca va
  obtain ⟨nb, rfl, hnb⟩ := xcl_ok g.tx hcb vb
  have hrun : Run w (.slice none 0 0) ([] : List Int) := ⟨World.ownsRow_nil _ _ _ _, by simp⟩
  refine (vis_at hL (s := ⟨f0 + J.length, f0 + L.length, f0 + L.length, []⟩) hrun row np ns' d na nb).mono ?_
  rintro e w' ⟨rfl, hB⟩
  obtain ⟨e1, _⟩ := sees_ok g.tx hL.1 hJ ho hna
  obtain ⟨e2, e3⟩ := sees_ok g.tx hL.1 hJ ho hnb
  refine ⟨_, rfl, ?_, hB⟩
  unfold vis
  rw [visC_eq e1 e2 e3]
  exact .bool _

theorem pFree_ok {args : List V} {s s' : SM} {v : V} (h : pFree args s = some (v, s')) : Ans (IN TP hT N) 321 args s v s' := by
  unfold pFree at h
  split at h <;> first | (cases h; done) | skip
  rename_i l o sn tv H nx h0 lg fuel run own sa sb old hor tr dt ky ns bd sm
  obtain ⟨h1, h⟩ := ck_eq h
  obtain ⟨h2, h⟩ := ck_eq h
  obtain ⟨q, h3, h⟩ := ob_eq h
  obtain ⟨⟨a, b⟩, hab, h⟩ := ob_eq h
  obtain ⟨ca, hca, h⟩ := ob_eq h
  obtain ⟨cb, hcb, h⟩ := ob_eq h
  obtain ⟨hvc, h⟩ := ck_eq h
  obtain ⟨hc0, h⟩ := ck_eq h
  cases h
  obtain ⟨rfl, hne⟩ := nm_ok h1
  obtain rfl : o = 0 := Nat.eq_of_beq_eq_true h2
  obtain rfl : cb = 0 := Nat.eq_of_beq_eq_true hc0
  refine ans_read (fun {K E w A F c f0 L} hS g hA => ?_)
  obtain ⟨p, hp, hL⟩ := g.log hne
  obtain ⟨x, y, z, rfl, hx, hy, hz⟩ := args3 hA
  rw [ptr_at hx hp rfl]
  obtain ⟨hr, J, hJ, hj, ho, rfl⟩ := isSnap_ok g.tx h3 hy
  obtain ⟨row, np, ns', d, xa, xb, rfl, va, vb⟩ := tupV_ok hab hz
  obtain ⟨na, rfl, hna⟩ := xcl_ok g.tx hca va
  obtain ⟨nb, rfl, hnb⟩ := xcl_ok g.tx hcb vb
  have hrun : Run w (.slice none 0 0) ([] : List Int) := ⟨World.ownsRow_nil _ _ _ _, by simp⟩
  refine (free_at hL (s := ⟨f0 + J.length, f0 + L.length, f0 + L.length, []⟩) hrun row np ns' d na nb).mono ?_
  rintro e w' ⟨rfl, hB⟩
  obtain ⟨e1, _⟩ := sees_ok g.tx hL.1 hJ ho hna
  obtain ⟨e2, e3⟩ := sees_ok g.tx hL.1 hJ ho hnb
  refine ⟨_, rfl, ?_, hB⟩
  have hv := visC_eq e1 e2 e3
  have hnb0 : nb = 0 := e3.1 rfl
  unfold freeE vis
  rw [if_neg (by simp [hnb0]), hv, hvc, if_pos rfl]
  exact .int _ _

theorem pDead_ok {args : List V} {s s' : SM} {v : V} (h : pDead args s = some (v, s')) : Ans (IN TP hT N) 140 args s v s' := by
  unfold pDead at h
  split at h <;> first | (cases h; done) | skip
  rename_i l o tv z0 H nx h0 lg fuel run own sa sb old hor tr dt ky ns bd sm
  obtain ⟨h1, h⟩ := ck_eq h
  obtain ⟨h2, h⟩ := ck_eq h
  obtain ⟨z, hzs, h⟩ := ob_eq h
  obtain ⟨hzm, h⟩ := ck_eq h
  obtain ⟨⟨a, b⟩, hab, h⟩ := ob_eq h
  obtain ⟨ca, hca, h⟩ := ob_eq h
  obtain ⟨cb, hcb, h⟩ := ob_eq h
  rw [fB_eq] at h; cases h
  obtain ⟨rfl, hne⟩ := nm_ok h1
  obtain rfl : o = 0 := Nat.eq_of_beq_eq_true h2
  refine ans_read (fun {K E w A F c f0 L} hS g hA => ?_)
  obtain ⟨p, hp, hL⟩ := g.log hne
  obtain ⟨x, y, z, rfl, hx, hy, hz⟩ := args3 hA
  rw [ptr_at hx hp rfl]
  obtain ⟨row, np, ns', d, xa, xb, rfl, va, vb⟩ := tupV_ok hab hy
  obtain ⟨na, rfl, hna⟩ := xcl_ok g.tx hca va
  obtain ⟨nb, rfl, hnb⟩ := xcl_ok g.tx hcb vb
  obtain ⟨hz', rfl, ez⟩ := sU_ok hzs hz
  obtain ⟨hh, e5, e6⟩ := g.tx.hor _ (lmem_ok hzm)
  rw [ez] at e5; cases e5
  refine (dead_at hL row np ns' d na nb hz').mono ?_
  rintro e w' ⟨rfl, hB⟩
  refine ⟨_, rfl, ?_, hB⟩
  have ha3 : (stt f0 L na == 3) = false := by
    rcases hna with ⟨_, rfl⟩ | ⟨_, hr, ho⟩ | ⟨_, h2⟩
    · rw [show stt f0 L 0 = 0 from stt_lo (by have := hL.1; omega)]; rfl
    · rw [(g.tx.own1 hL.1 hr ho).1]; rfl
    · rw [h2]; rfl
  have : deadB f0 L na nb hz' = deadC cb := by
    unfold deadB deadC
    rw [ha3]
    rcases hnb with ⟨rfl, rfl⟩ | ⟨rfl, hr, ho⟩ | ⟨rfl, h2⟩
    · rfl
    · rw [(g.tx.own1 hL.1 hr ho).1]
      have e : (nb != 0) = true := bne_iff_ne.2 (g.tx.own1 hL.1 hr ho).2.2
      rw [e]; rfl
    · have h1 : nb < f0 + L.length := by
        rcases Int.lt_or_le nb (f0 + L.length) with h3 | h3
        · exact h3
        · rw [stt_hi h3] at h2; cases h2
      have h3 : nb ≠ 0 := fun e => by rw [e, stt_lo (by have := hL.1; omega)] at h2; cases h2
      rw [h2]
      simp [h3]; omega
  rw [this]
  exact .bool _
end
end X
end Go.Proofs.YtnkjnclpakfgnaaGreatDoor
