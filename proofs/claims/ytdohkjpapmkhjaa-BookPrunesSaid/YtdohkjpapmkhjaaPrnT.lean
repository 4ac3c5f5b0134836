/-
  BookPrunes: what each that runs is told ahead of the pruning, kept in a map by their numbers, and that it is told the same behind it.
-/
import Derived.Test.YtdohkjpapmkhjaaPrnO
import Derived.Test.YtdohkjpapmkhjaaTab
import Derived.Test.YtdohkjpapmkhjaaInds
import Derived.Test.YtdohkjpapmkhjaaNames
import Derived.Maps.RangeWalk
import Derived.Maps.Views
namespace Go.Proofs.Ytdohkjpapmkhjaa
open Go.RowKit

theorem Upd.grownRow {w w' : World} {row : Option Nat} (u : Upd (fun b => row = some b) w w') : w.grownBy w' row := ⟨u.os, u.tape, u.output, u.size, fun k hk hne => u.block k hk (fun e => hne e.symm)⟩
theorem below_grown {w w' : World} (h : Below w.heap.size w w') : w.grownBy w' none := ⟨h.os, h.tape, h.output, h.size, fun k hk _ => h.block k hk⟩
theorem below_of_grown {w w' : World} {row : Option Nat} {B : Nat} (h : w.grownBy w' row) (hB : B ≤ w.heap.size) (hr : ∀ j, row = some j → B ≤ j) : Below B w w' := ⟨h.os, h.tape, h.output, h.size, fun k hk => h.block k (by omega) (fun e => by have := hr k e.symm; omega)⟩
theorem grown_upd {w w' : World} {b : Nat} (h : w.grownBy w' (some b)) : Upd (fun k => k = b) w w' := ⟨h.os, h.tape, h.output, h.size, fun k hk hne => h.block k hk (fun e => hne (Option.some.inj e))⟩

/-- A script that came in. -/
def ScriptP (w : World) (a : Option Addr) (len : Nat) : Prop :=
  ∀ i, i < len → ∃ b off d who nm tb cn ca cl cc, a = some ⟨b, off, none⟩ ∧ b < w.heap.size ∧ w.cell? ⟨b, off + i * 6, none⟩ = some (.int .u8 d) ∧ w.cell? ⟨b, off + i * 6 + 1, none⟩ = some (.int .u8 who) ∧ w.cell? ⟨b, off + i * 6 + 2, none⟩ = some (.string nm) ∧
    w.cell? ⟨b, off + i * 6 + 3, none⟩ = some (.string tb) ∧ w.cell? ⟨b, off + i * 6 + 4, none⟩ = some (.string cn) ∧ w.cell? ⟨b, off + i * 6 + 5, none⟩ = some (.slice ca cl cc) ∧ 0 ≤ d ∧ d ≤ 255 ∧ 0 ≤ who ∧ who ≤ 255 ∧ nm.size ≤ 9223372036854775807 ∧ tb.size ≤ 9223372036854775807

/-- 'few', whatever the text. -/
theorem few_whole (s : ByteArray) (w : World) (hsz : s.size ≤ 9223372036854775807) : Calls Try.prog 46 #[.string s] w fun e w' => e = .returned (.string (cut30 s)) ∧ w' = w := by
  by_cases h : s.size ≤ 30
  · exact few_any s w (by omega)
  · have h1 : (30 : Int) < (s.size : Int) := by omega
    have hm : min s.size 30 = 30 := by omega
    go_enter Try.func46, Try.ntmps46
    go_wp2_with fail
    go_ret
    exact ⟨by unfold cut30; rw [hm]; rfl, rfl⟩

theorem ownsMap_upd {P : Program} {k : TypeId} {R : Value → Option (DataW Unit × List MemPlace)} {b n : Nat} {D : DataW Unit} {w w' : World} {S : Nat → Prop} (h : w.ownsMap P k R b n D) (u : Upd S w w') (hb : ¬ S b) : w'.ownsMap P k R b n D := by
  have hlt := h.lt
  obtain ⟨es, clock, h1, F, hs, hD⟩ := h
  exact ⟨es, clock, (u.block b hlt hb).trans h1, F, hs, hD⟩

/-- What is told of a name: the table's number, and how many indexes of it are seen. -/
def seenN (L : List Nat) (s : Snp) (name : ByteArray) (T : List (Nat × Ent × Value)) (I : List (Nat × Ent × Int)) : Int := seenT L s name T + 1000 * ((visI 1 L s (seenT L s name T) I).length : Int)

section
variable {c cl : Nat → Nat} {k kl p pl : Nat} {w w' : World} {tv iv rv : Value} {T : List (Nat × Ent × Value)} {I : List (Nat × Ent × Int)} {last : Int} {L : List Nat} {s : Snp} {name : ByteArray}
theorem seenT_bounds (h : TIds T last) (hl : 0 ≤ last) : 0 ≤ seenT L s name T ∧ seenT L s name T ≤ last := by
  unfold seenT
  split
  · rename_i t ht
    have := h.pos t (findT_mem ht)
    omega
  · exact ⟨Int.le_refl _, hl⟩
theorem visI_le {n : Int} : (visI 1 L s n I).length ≤ I.length := by
  unfold visI
  exact List.length_filter_le _ _
theorem seenN_bounds (h : BookAt c k w p tv iv T I last) (hi : TIds T last) : 0 ≤ seenN L s name T I ∧ seenN L s name T I ≤ 1099511650000 := by
  have h1 := seenT_bounds (L := L) (s := s) (name := name) hi h.lo
  have h2 := visI_le (L := L) (s := s) (n := seenT L s name T) (I := I)
  have h3 := h.ilen
  have h4 := h.hi
  unfold seenN
  omega
theorem table_seen (h : BookAt c k w p tv iv T I last) (hl : LogAt cl kl w pl 1 L) (hr : Run w rv s.run) (name : ByteArray) :
    Calls Try.prog 54 #[.pointer (some ⟨p, 0, none⟩), .pointer (some ⟨pl, 0, none⟩), s.val rv, .string name] w fun r w' => (∃ nm ca ln cc xn xx ok, r = .returned (.tuple #[.agg #[.int .u64 (seenT L s name T), .string nm, .slice ca ln cc, .int .u64 xn, .int .u64 xx], .bool ok])) ∧ Below w.heap.size w w' := by
  unfold seenT
  cases hf : findT 1 L s name T with
  | none => exact (table_none h hl hr name hf).mono fun r w' ⟨h1, h2⟩ => ⟨⟨_, _, _, _, _, _, _, h1⟩, h2⟩
  | some t => exact (table_some h hl hr name hf).mono fun r w' ⟨⟨g, cap, h1⟩, h2⟩ => ⟨⟨_, _, _, _, _, _, _, h1⟩, h2⟩
theorem indexes_seen (h : BookAt c k w p tv iv T I last) (hl : LogAt cl kl w pl 1 L) (hr : Run w rv s.run) (tid : Int) :
    Calls Try.prog 55 #[.pointer (some ⟨p, 0, none⟩), .pointer (some ⟨pl, 0, none⟩), s.val rv, .int .u64 tid] w fun r w' => (∃ a cap, r = .returned (.slice a (visI 1 L s tid I).length cap)) ∧ Below w.heap.size w w' :=
  (indexes_at h hl hr tid).mono fun r w' ⟨v, h1, h2, h3⟩ => by
    obtain ⟨a, cap, hv⟩ := ownsRow_slice h2
    exact ⟨⟨a, cap, by rw [h1, hv]⟩, h3⟩
end

theorem told_wrap {a : Int} {n : Nat} (h0 : 0 ≤ a) (h1 : a ≤ 1099511627776) (h2 : n ≤ 16) : IntKind.u64.wrap (a + IntKind.u64.wrap (1000 * IntKind.u64.wrap (n : Int))) = a + 1000 * (n : Int) := by
  have e : ∀ x : Int, IntKind.u64.wrap x = x % 18446744073709551616 := fun x => by simp [IntKind.wrap, IntKind.signed, IntKind.bits]
  rw [e, e, e]
  omega

/-- The snapshots of those that run, in the order of O. -/
def allOf (lv : Int → Option (Snp × Value)) (xs : List Int) : List (Snp × Value) := xs.filterMap lv
theorem allOf_le (lv : Int → Option (Snp × Value)) (xs : List Int) : (allOf lv xs).length ≤ xs.length := List.length_filterMap_le _ _
theorem allOf_take {lv : Int → Option (Snp × Value)} {O : List Int} {k : Nat} (hk : k < O.length) : allOf lv (O.take (k + 1)) = allOf lv (O.take k) ++ (match lv O[k] with | none => [] | some z => [z]) := by
  unfold allOf
  rw [List.take_add_one, List.getElem?_eq_getElem hk, List.filterMap_append]
  congr 1
  simp only [Option.toList_some, List.filterMap_cons, List.filterMap_nil]
  cases lv O[k] <;> rfl

/-- What the map of what was told holds. -/
def WasOk (lv : Int → Option (Snp × Value)) (f : Snp → Int) (xs : List Int) (D : DataW Unit) : Prop :=
  Go.Maps.IsMap D ∧ ∀ x c, (∀ zd, D.atKey (.int .u64 x) zd = .lit (.int .u64 c)) → x ∈ xs ∧ ∃ z, lv x = some z ∧ c = f z.1
section
variable {lv : Int → Option (Snp × Value)} {f : Snp → Int} {xs : List Int} {D : DataW Unit}
theorem WasOk.start : WasOk lv f [] (.map []) := ⟨Go.Maps.isMap_empty, fun x c h => by
  have := h (.lit (.bool true))
  simp [DataW.atKey] at this⟩
theorem WasOk.more (h : WasOk lv f xs D) (y : Int) : WasOk lv f (xs ++ [y]) D := ⟨h.1, fun x c hx => by
  obtain ⟨h1, h2⟩ := h.2 x c hx
  exact ⟨List.mem_append_left _ h1, h2⟩⟩
theorem WasOk.put (h : WasOk lv f xs D) {y : Int} {z : Snp × Value} (hz : lv y = some z) : WasOk lv f (xs ++ [y]) (D.put (.int .u64 y) (.lit (.int .u64 (f z.1)))) :=
  ⟨h.1.put _ _, fun x c hx => by
    by_cases e : x = y
    · subst e
      have := hx (.lit (.bool true))
      rw [Go.Maps.atKey_put_same h.1 (by simp [WideAt.IsKeyLit])] at this
      simp only [DataW.lit.injEq, Lit.int.injEq, true_and] at this
      exact ⟨by simp, z, hz, this.symm⟩
    · obtain ⟨h1, h2⟩ := h.2 x c (fun zd => by
        rw [← hx zd, Go.Maps.atKey_put_other (fun e2 => e (by cases e2; rfl))])
      exact ⟨List.mem_append_left _ h1, h2⟩⟩
end

/-- Those that run are told the same behind the pruning. -/
theorem prune_seen {L : List Nat} {lv : Int → Option (Snp × Value)} {O : List Int} (hV : PrnOk L lv) {T : List (Nat × Ent × Value)} {I : List (Nat × Ent × Int)} {last : Int} (hids : TIds T last) (name : ByteArray) {hz : Int} (hhz : hz = least (1 + L.length) ((allOf lv O).map (·.1.xmin)))
    {x : Int} {z : Snp × Value} (hx : x ∈ O) (hl : lv x = some z) : seenN L z.1 name (T.filter fun t => !deadT 1 L hz t) (I.filter fun y => !deadI 1 L hz T y) = seenN L z.1 name T I := by
  have hs : z.1.xmin ∈ (allOf lv O).map (·.1.xmin) := List.mem_map.2 ⟨z, List.mem_filterMap.2 ⟨x, hx, hl⟩, rfl⟩
  have hown : stt 1 L z.1.own = 1 := by
    rw [(hV.fits x z hl).2]
    exact (hV.lives.run x).1 (by rw [hl]; rfl)
  obtain ⟨h1, h2⟩ := prune_same hhz (hV.fits x z hl).1 hs hown (T := T) (I := I) hids.once (fun t ht => (hids.pos t ht).1) name
  have h3 : seenT L z.1 name (T.filter fun t => !deadT 1 L hz t) = seenT L z.1 name T := by
    unfold seenT
    rw [h1]
  unfold seenN
  rw [h3, h2]
end Go.Proofs.Ytdohkjpapmkhjaa
