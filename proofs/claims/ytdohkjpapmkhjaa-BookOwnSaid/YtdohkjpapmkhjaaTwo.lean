/-
  THE LOG, THE BOOK AND TWO SNAPSHOTS IN BLOCKS OF THEIR OWN.
-/
import Derived.Test.YtdohkjpapmkhjaaMkok
import Derived.Test.YtdohkjpapmkhjaaTab
namespace Go.Proofs.Ytdohkjpapmkhjaa
open Go.RowKit

/-- A snapshot in a block of its own. -/
structure Hold (c : Nat → Nat) (w : World) (q : Nat) (s : Snp) (ra : Option Addr) (rc : Nat) : Prop where
  blk : w.heap[q]? = some (.cells #[.int .u64 s.own, .int .u64 s.xmin, .int .u64 s.xmax, .slice ra s.run.length rc] 66 (0, 0))
  col : c q = 9
  run : Own9 c w (.slice ra s.run.length rc) s.run
section
variable {w0 : World} {c : Nat → Nat} {w w' : World} {pl p : Nat} {L L' : List Nat} {tv iv : Value} {T : List (Nat × Ent × Value)} {I : List (Nat × Ent × Int)} {last : Int} {rv : Value} {l : List Int}
variable {q q' : Nat} {s s' : Snp} {ra ra' : Option Addr} {rc rc' : Nat}
theorem Hold.same (h : Hold c w q s ra rc) (u : Below w.heap.size w w') : Hold c w' q s ra rc := ⟨(Upd.same (S := fun _ => False) u).heap h.blk id, h.col, h.run.same u⟩
theorem Hold.recol (h : Hold c w q s ra rc) {c' : Nat → Nat} (hold : ∀ b, b < w.heap.size → c' b = c b) : Hold c' w q s ra rc := ⟨h.blk, (hold q (lt_of_block h.blk)).trans h.col, h.run.recol hold⟩
theorem Hold.upd {i : Nat} (h : Hold c w q s ra rc) (u : Upd (fun b => c b = i) w w') (hi : i ≠ 9) : Hold c w' q s ra rc := ⟨u.heap h.blk (fun e => by have := h.col; omega), h.col, h.run.upd u hi⟩
theorem Hold.four (h : Hold c w q s ra rc) : w.cell? ⟨q, 0, none⟩ = some (.int .u64 s.own) ∧ w.cell? ⟨q, 1, none⟩ = some (.int .u64 s.xmin) ∧ w.cell? ⟨q, 2, none⟩ = some (.int .u64 s.xmax) ∧ w.cell? ⟨q, 3, none⟩ = some (.slice ra s.run.length rc) :=
  ⟨cell_of_block h.blk rfl, cell_of_block h.blk rfl, cell_of_block h.blk rfl, cell_of_block h.blk rfl⟩

structure Two (w0 : World) (c : Nat → Nat) (w : World) (pl p : Nat) (L : List Nat) (tv iv : Value) (T : List (Nat × Ent × Value)) (I : List (Nat × Ent × Int)) (last : Int) (q : Nat) (s : Snp) (ra : Option Addr) (rc : Nat) (q' : Nat) (s' : Snp) (ra' : Option Addr) (rc' : Nat) : Prop where
  d : Desk w0 c w pl p L tv iv T I last
  a : Hold c w q s ra rc
  b : Hold c w q' s' ra' rc'
theorem Two.same (h : Two w0 c w pl p L tv iv T I last q s ra rc q' s' ra' rc') (u : Below w.heap.size w w') : Two w0 c w' pl p L tv iv T I last q s ra rc q' s' ra' rc' := ⟨h.d.same u, h.a.same u, h.b.same u⟩
theorem Two.recol (h : Two w0 c w pl p L tv iv T I last q s ra rc q' s' ra' rc') {c' : Nat → Nat} (hold : ∀ b, b < w.heap.size → c' b = c b) : Two w0 c' w pl p L tv iv T I last q s ra rc q' s' ra' rc' := ⟨h.d.recol hold, h.a.recol hold, h.b.recol hold⟩
theorem two_begin (h : Two w0 c w pl p L tv iv T I last q s ra rc q' s' ra' rc') (hf : 1 + (L.length : Int) ≤ 1099511627776) : Calls Try.prog 18 #[.pointer (some ⟨pl, 0, none⟩)] w fun e w' => e = .returned (.tuple #[.int .u64 (1 + L.length), .int .i64 0]) ∧
    ∃ c', Two w0 c' w' pl p (L ++ [1]) tv iv T I last q s ra rc q' s' ra' rc' := by
  refine (desk_begin h.d hf).mono fun e w' ⟨h1, h2, h3⟩ => ?_
  have hold : ∀ b, b < w.heap.size → Ytdohkjpapmkhjaa.col c w.heap.size 1 b = c b := fun b hb => col_old hb
  have u := h3.mono (T := fun b => Ytdohkjpapmkhjaa.col c w.heap.size 1 b = 1) (fun b hb e => (hold b hb).trans e)
  exact ⟨h1, _, h2, (h.a.recol hold).upd u (by decide), (h.b.recol hold).upd u (by decide)⟩
theorem two_commit (h : Two w0 c w pl p L tv iv T I last q s ra rc q' s' ra' rc') (x : Int) : Calls Try.prog 23 #[.pointer (some ⟨pl, 0, none⟩), .int .u64 x] w fun e w' => e = .returned (.int .i64 (endErr 1 L x)) ∧ Two w0 c w' pl p (ended 1 L x 2) tv iv T I last q s ra rc q' s' ra' rc' := by
  refine (desk_commit h.d x).mono fun e w' ⟨h1, h2, h3⟩ => ⟨h1, h2, h.a.upd h3 (by decide), h.b.upd h3 (by decide)⟩
theorem two_abort (h : Two w0 c w pl p L tv iv T I last q s ra rc q' s' ra' rc') (x : Int) : Calls Try.prog 25 #[.pointer (some ⟨pl, 0, none⟩), .int .u64 x] w fun e w' => e = .returned (.int .i64 (endErr 1 L x)) ∧ Two w0 c w' pl p (ended 1 L x 3) tv iv T I last q s ra rc q' s' ra' rc' := by
  refine (desk_abort h.d x).mono fun e w' ⟨h1, h2, h3⟩ => ⟨h1, h2, h.a.upd h3 (by decide), h.b.upd h3 (by decide)⟩
theorem two_create {cv : Value} (h : Two w0 c w pl p L tv iv T I last q s ra rc q' s' ra' rc') (name : ByteArray) (hsz : name.size ≤ 4611686018427387904) (hc : ColsAt w cv) (hn : isName name = true)
    (hE : takenE 1 L s name ((ents T I).map (·.2)) 0 = 0) (hT : T.length < 16) (hlast : last < 1099511627776) :
    Calls Try.prog 48 #[.pointer (some ⟨p, 0, none⟩), .pointer (some ⟨pl, 0, none⟩), s.val (.slice ra s.run.length rc), .string name, cv] w fun r w' => r = .returned (.tuple #[.int .u64 (last + 1), .int .i64 0]) ∧
      ∃ c' v' bt cv', Two w0 c' w' pl p L v' iv (T ++ [(bt, ⟨last + 1, name, s.own, 0⟩, cv')]) I (last + 1) q s ra rc q' s' ra' rc' := by
  refine (desk_create h.d h.a.run.1 name hsz hc hn hE hT hlast).mono fun r w' ⟨h1, ⟨v', bt, cv', h2⟩, h3⟩ => ?_
  have hold : ∀ b, b < w.heap.size → Ytdohkjpapmkhjaa.col c w.heap.size 2 b = c b := fun b hb => col_old hb
  have u := h3.mono (T := fun b => Ytdohkjpapmkhjaa.col c w.heap.size 2 b = 2) (fun b hb e => (hold b hb).trans e)
  exact ⟨h1, _, v', bt, cv', h2, (h.a.recol hold).upd u (by decide), (h.b.recol hold).upd u (by decide)⟩
theorem desk_mkind (h : Desk w0 c w pl p L tv iv T I last) {s : Snp} (hr : Run w rv s.run) (name ofn : ByteArray) (hsz : name.size ≤ 4611686018427387904) (hn : isName name = true) {t : Nat × Ent × Value} (hf : findT 1 L s ofn T = some t)
    (hE : takenE 1 L s name ((ents T I).map (·.2)) 0 = 0) (hI : I.length < 16) (hlast : last < 1099511627776) :
    Calls Try.prog 53 #[.pointer (some ⟨p, 0, none⟩), .pointer (some ⟨pl, 0, none⟩), s.val rv, .string name, .string ofn, .string nameA] w fun r w' => r = .returned (.tuple #[idxV ⟨last + 1, name, s.own, 0⟩ t.2.1.id, .int .i64 0]) ∧
      (∃ v' bt, Desk w0 (col c w.heap.size 2) w' pl p L tv v' T (I ++ [(bt, ⟨last + 1, name, s.own, 0⟩, t.2.1.id)]) (last + 1)) ∧ Upd (fun b => c b = 2) w w' := by
  refine (mkind_ok h.b h.l hr name ofn hsz hn hf hE hI hlast).mono fun r w' ⟨h1, v', bt, h2, h3⟩ => ⟨h1, ⟨v', bt, ?_⟩, h3⟩
  have hold : ∀ b, b < w.heap.size → Ytdohkjpapmkhjaa.col c w.heap.size 2 b = c b := fun b hb => col_old hb
  have k := h.recol hold
  have u := h3.mono (T := fun b => Ytdohkjpapmkhjaa.col c w.heap.size 2 b = 2) (fun b hb e => (hold b hb).trans e)
  exact ⟨k.l.upd u (fun b e e2 => by omega), h2, k.col, k.below.trans (u.below k.below.size (fun b hb e => by have := k.col b hb; omega))⟩
theorem two_mkind (h : Two w0 c w pl p L tv iv T I last q s ra rc q' s' ra' rc') (name ofn : ByteArray) (hsz : name.size ≤ 4611686018427387904) (hn : isName name = true) {t : Nat × Ent × Value} (hf : findT 1 L s ofn T = some t)
    (hE : takenE 1 L s name ((ents T I).map (·.2)) 0 = 0) (hI : I.length < 16) (hlast : last < 1099511627776) :
    Calls Try.prog 53 #[.pointer (some ⟨p, 0, none⟩), .pointer (some ⟨pl, 0, none⟩), s.val (.slice ra s.run.length rc), .string name, .string ofn, .string nameA] w fun r w' => r = .returned (.tuple #[idxV ⟨last + 1, name, s.own, 0⟩ t.2.1.id, .int .i64 0]) ∧
      ∃ c' v' bt, Two w0 c' w' pl p L tv v' T (I ++ [(bt, ⟨last + 1, name, s.own, 0⟩, t.2.1.id)]) (last + 1) q s ra rc q' s' ra' rc' := by
  refine (desk_mkind h.d h.a.run.1 name ofn hsz hn hf hE hI hlast).mono fun r w' ⟨h1, ⟨v', bt, h2⟩, h3⟩ => ?_
  have hold : ∀ b, b < w.heap.size → Ytdohkjpapmkhjaa.col c w.heap.size 2 b = c b := fun b hb => col_old hb
  have u := h3.mono (T := fun b => Ytdohkjpapmkhjaa.col c w.heap.size 2 b = 2) (fun b hb e => (hold b hb).trans e)
  exact ⟨h1, _, v', bt, h2, (h.a.recol hold).upd u (by decide), (h.b.recol hold).upd u (by decide)⟩
end
end Go.Proofs.Ytdohkjpapmkhjaa
