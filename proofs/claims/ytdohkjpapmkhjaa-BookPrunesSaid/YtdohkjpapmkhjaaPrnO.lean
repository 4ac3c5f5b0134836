/-
  BookPrunes' steps: what each call does to the state.
-/
import Derived.Test.YtdohkjpapmkhjaaPrn
namespace Go.Proofs.Ytdohkjpapmkhjaa
open Go.RowKit
section
variable {w0 : World} {ub pl p : Nat} {ov rv cv : Value} {c : Nat → Nat} {w w' : World} {L : List Nat} {lv : Int → Option (Snp × Value)} {m : List (Int × Value)} {O : List Int} {n : Int} {s : Snp}
theorem prn_commit (h : Prn w0 ub pl p ov c w L lv m O n) (x : Int) : Calls Try.prog 23 #[.pointer (some ⟨pl, 0, none⟩), .int .u64 x] w fun e w' => e = .returned (.int .i64 (endErr 1 L x)) ∧ Prn w0 ub pl p ov c w' (ended 1 L x 2) lv m O n := by
  refine (commit_at h.l x).mono fun e w' ⟨h1, h2, h3⟩ => ⟨h1, h.log h2 h3⟩
theorem prn_abort (h : Prn w0 ub pl p ov c w L lv m O n) (x : Int) : Calls Try.prog 25 #[.pointer (some ⟨pl, 0, none⟩), .int .u64 x] w fun e w' => e = .returned (.int .i64 (endErr 1 L x)) ∧ Prn w0 ub pl p ov c w' (ended 1 L x 3) lv m O n := by
  refine (abort_at h.l x).mono fun e w' ⟨h1, h2, h3⟩ => ⟨h1, h.log h2 h3⟩
theorem prn_begin (h : Prn w0 ub pl p ov c w L lv m O n) (hf : 1 + (L.length : Int) ≤ 1099511627776) : Calls Try.prog 18 #[.pointer (some ⟨pl, 0, none⟩)] w fun e w' => e = .returned (.tuple #[.int .u64 (1 + L.length), .int .i64 0]) ∧ ∃ c', Prn w0 ub pl p ov c' w' (L ++ [1]) lv m O n := by
  refine (begin_at h.l hf).mono fun e w' ⟨h1, h2, h3⟩ => ?_
  have hold : ∀ b, b < w.heap.size → Ytdohkjpapmkhjaa.col c w.heap.size 1 b = c b := fun b hb => col_old hb
  exact ⟨h1, _, (h.recol hold).log h2 (h3.mono (fun b hb e => (hold b hb).trans e))⟩
theorem prn_take (h : Prn w0 ub pl p ov c w L lv m O n) (x : Int) : Calls Try.prog 36 #[.pointer (some ⟨pl, 0, none⟩), .int .u64 x] w fun e w' => ∃ rv, e = .returned ((take 1 L x).val rv) ∧ Run w' rv (take 1 L x).run ∧
    ∃ c', (∀ g, rv.ownBlock = some g → c' g = 9) ∧ Prn w0 ub pl p ov c' w' L lv m O n := by
  refine (take_at h.l x).mono fun e w' ⟨rv, h1, h2, h3, h4⟩ => ⟨rv, h1, h2, Ytdohkjpapmkhjaa.col c w.heap.size 9, fun g hg => col_new (h3 g hg), (h.recol (fun b hb => col_old hb)).same h4⟩
theorem Prn.step (h : Prn w0 ub pl p ov c w L lv m O n) (hb : BookOk (Ytdohkjpapmkhjaa.col c w.heap.size 2) 2 w' p (n + 1)) (hu : Upd (fun b => c b = 2) w w') : ∃ c', Prn w0 ub pl p ov c' w' L lv m O (n + 1) :=
  ⟨_, (h.recol (fun _b hb => col_old hb)).book hb (hu.mono (fun _b hb e => (col_old hb).trans e))⟩
theorem prn_create (h : Prn w0 ub pl p ov c w L lv m O n) (hn : n < 1099511627776) (hr : Run w rv s.run) (name : ByteArray) (hsz : name.size ≤ 4611686018427387904) (hc : ColsAt w cv) :
    Calls Try.prog 48 #[.pointer (some ⟨p, 0, none⟩), .pointer (some ⟨pl, 0, none⟩), s.val rv, .string name, cv] w fun r w' => (∃ a b, r = .returned (.tuple #[.int .u64 a, .int .i64 b])) ∧ ∃ c', Prn w0 ub pl p ov c' w' L lv m O (n + 1) :=
  (create_any h.b hn h.l hr name hsz hc).mono fun _r _w' ⟨e, hb, hu⟩ => ⟨e, h.step hb hu⟩
theorem prn_mkind (h : Prn w0 ub pl p ov c w L lv m O n) (hn : n < 1099511627776) (hr : Run w rv s.run) (name ofn : ByteArray) (hsz : name.size ≤ 4611686018427387904) :
    Calls Try.prog 53 #[.pointer (some ⟨p, 0, none⟩), .pointer (some ⟨pl, 0, none⟩), s.val rv, .string name, .string ofn, .string nameA] w fun r w' => (∃ a b, r = .returned (.tuple #[a, b])) ∧ ∃ c', Prn w0 ub pl p ov c' w' L lv m O (n + 1) :=
  (mkind_any h.b hn h.l hr name ofn hsz).mono fun _r _w' ⟨e, hb, hu⟩ => ⟨e, h.step hb hu⟩
theorem prn_drop (h : Prn w0 ub pl p ov c w L lv m O n) (hr : Run w rv s.run) (name : ByteArray) :
    Calls Try.prog 52 #[.pointer (some ⟨p, 0, none⟩), .pointer (some ⟨pl, 0, none⟩), s.val rv, .string name] w fun r w' => (∃ a b, r = .returned (.tuple #[a, b])) ∧ ∃ c', Prn w0 ub pl p ov c' w' L lv m O (n + 1) :=
  (drop_any h.b h.l hr name).mono fun _r _w' ⟨e, hb, hu⟩ => ⟨e, h.step hb hu⟩
theorem prn_dropi (h : Prn w0 ub pl p ov c w L lv m O n) (hr : Run w rv s.run) (name : ByteArray) :
    Calls Try.prog 56 #[.pointer (some ⟨p, 0, none⟩), .pointer (some ⟨pl, 0, none⟩), s.val rv, .string name] w fun r w' => (∃ r', r = .returned r') ∧ ∃ c', Prn w0 ub pl p ov c' w' L lv m O (n + 1) :=
  (dropi_any h.b h.l hr name).mono fun _r _w' ⟨e, hb, hu⟩ => ⟨e, h.step hb hu⟩

/-- What those that run owe to the log stays so. -/
theorem PrnOk.ended (h : PrnOk L lv) (x : Int) {q : Nat} (hq : q ≠ 1) : PrnOk (Ytdohkjpapmkhjaa.ended 1 L x q) (fun y => if y = x then none else lv y) :=
  ⟨h.lives.ended x hq, fun y z e => by
    split at e
    · cases e
    · exact ⟨(h.fits y z e).1.ended x hq, (h.fits y z e).2⟩⟩
theorem PrnOk.begin (h : PrnOk L lv) (rv : Value) : PrnOk (L ++ [1]) (fun y => if y = 1 + (L.length : Int) then some (take 1 (L ++ [1]) (1 + L.length), rv) else lv y) :=
  ⟨h.lives.begin rv, fun y z e => by
    split at e
    · rename_i e2
      obtain rfl := Option.some.inj e
      exact ⟨Fits.take _ _, e2.symm⟩
    · exact ⟨(h.fits y z e).1.begin, (h.fits y z e).2⟩⟩
end
end Go.Proofs.Ytdohkjpapmkhjaa
