/-
  lapidarylaw19.few, the walk.
-/
import Derived.Test.YtifcdfilglbdgaaFew2
import Derived.Deep.CutRange
import Derived.Deep.CutBlock
namespace Go.Proofs.Ytifcdfilglbdgaa
open Go.RowKit

theorem news_cells {w : World} {b T : Nat} {x0 x1 x2 x3 : Value} (h : w.heap[b]? = some (.cells #[x0, x1, x2, x3] T (0, 0))) : ∀ j u, [x0, x1, x2, x3][j]? = some u → w.cell? ((⟨b, 0, none⟩ : Addr).add j) = some u := fun j u hj => by
  match j, hj with
  | 0, hj => obtain rfl := Option.some.inj hj; exact cell_of_block h rfl
  | 1, hj => obtain rfl := Option.some.inj hj; exact cell_of_block h rfl
  | 2, hj => obtain rfl := Option.some.inj hj; exact cell_of_block h rfl
  | 3, hj => obtain rfl := Option.some.inj hj; exact cell_of_block h rfl

theorem own_form {α : Type} {w : World} {B e s : Nat} {v : Value} {xs : List Value} {F : List α} (h : w.ownsRow B e s v F.length xs) : (v = .slice none 0 0 ∧ F = []) ∨ ∃ g cap, v = .slice (some ⟨g, 0, none⟩) F.length cap ∧ F.length ≤ cap := by
  rcases h.2 with ⟨h1, h2⟩ | ⟨g, cap, cur, hv, _, _, hn, _⟩
  · exact .inl ⟨h1, List.eq_nil_of_length_eq_zero h2⟩
  · exact .inr ⟨g, cap, hv, hn⟩

set_option maxHeartbeats 4000000 in
set_option maxRecDepth 100000 in
theorem few_own {w : World} {lv : Value} {L : List (List V)} {n : Nat} (hL : KeysIn w lv L) (hn : n ≤ 3) :
    Calls Try.prog 10 #[lv, .int .i64 n] w fun r w' => ∃ v vals, r = .returned v ∧ w'.ownsRow w.heap.size 34 1 v (fewR n L).length vals ∧ (∀ (j : Nat) (hj : j < (fewR n L).length) (u : Value), vals[j]? = some u → w'.ownsRow w.heap.size 39 4 u n ((fewR n L)[j].flatMap vcells)) ∧ Below w.heap.size w w' := by
  obtain ⟨i39, hi39, hz390, hz391, hz392⟩ := info_parts Try.info39
  obtain ⟨i34, hi34, hz340, hz341, hz342⟩ := info_parts Try.info34
  obtain ⟨la, lc, rfl, hll, hlc⟩ := hL
  have hfl := fewR_len n L
  have hfe : (fewR n L).length = min 40 L.length := by simp [fewR]
  have hfg : ∀ j (h : j < (fewR n L).length), ∃ h2 : j < L.length, (fewR n L)[j] = fewRow n L[j] := fun j h => ⟨by omega, by simp [fewR]⟩
  have HLC := Lib.hid hlc; have HFE := Lib.hid hfe; have HFG := Lib.hid hfg
  clear hlc hfe hfg
  obtain ⟨F, hF⟩ : ∃ F, F = fewR n L := ⟨_, rfl⟩
  have hall : ∀ r ∈ F, r.length = n := by rw [hF]; exact fewR_all n L
  rw [← hF] at HFE HFG hfl ⊢
  have HALL := Lib.hid hall
  clear hF hall
  go_enter Try.func10, Try.ntmps10
  go_wp2_with fail
  go_loopw [5, 13] (fun v i wr => ∃ (k : Nat) (vals : List Value), k ≤ F.length ∧ i = .int .i64 k ∧ wr.ownsRow w.heap.size 34 1 v k vals ∧ Hid (∀ (j : Nat) (hj : j < F.length) (u : Value), vals[j]? = some u → wr.ownsRow w.heap.size 39 4 u n (F[j].flatMap vcells)) ∧ Below w.heap.size w wr) (fun _ i _ => L.length - (intOf i).toNat)
  case atStart => exact ⟨0, [], Nat.zero_le _, rfl, World.ownsRow_nil _ _ _ _, (fun j hj u hu => by cases hu), Below.refl _ _⟩
  case round =>
    obtain ⟨k, vals, hk, rfl, hown, HE, hB⟩ := hrel
    have hz := hB.size
    have hvl : vals.length = k := by have := hown.1; simpa using this
    have hwn : ∀ b, u5.ownBlock = some b → w.heap.size ≤ b := fun b hb => (World.ownsRow.lt hown b hb).1
    have HWN := Lib.hid hwn; clear hwn
    by_cases hlt : k < L.length
    · obtain ⟨b, off, rv, hla, cr, hr⟩ := HLC.out k hlt
      subst hla
      have cr' := keeper hB cr
      obtain ⟨ra, rc, rfl, hrl, hrc⟩ := hr
      by_cases h40 : k < 40
      · have hkF : k < F.length := by rw [HFE.out]; omega
        obtain ⟨_, hFk⟩ := HFG.out k hkF
        have h40' : ¬ (40 : Int) ≤ (k : Int) := by omega
        have hsn := fun c (hc : c < n) => fewRow_snoc n c L[k] hc
        obtain ⟨r, hr⟩ : ∃ r, r = L[k] := ⟨_, rfl⟩
        rw [← hr] at cr' hrl hrc hFk hsn
        have HRC := Lib.hid hrc; have HSN := Lib.hid hsn; have HFK := Lib.hid hFk
        clear hrc hsn hFk hr cr
        go_wp2_with fail
        obtain ⟨wo, hwo⟩ : ∃ wo, wo = wr := ⟨_, rfl⟩
        subst hwo
        go_loopw [8, 21] (fun kv cv wq => ∃ c : Nat, c ≤ n ∧ cv = .int .i64 c ∧ wq.ownsRow wo.heap.size 39 4 kv c (((fewRow n r).take c).flatMap vcells) ∧ Below wo.heap.size wo wq) (fun _ cv _ => n - (intOf cv).toNat)
        case atStart => exact ⟨0, Nat.zero_le _, rfl, World.ownsRow_nil _ _ _ _, Below.refl _ _⟩
        case round =>
          obtain ⟨c, hc, rfl, hkey, hQ⟩ := hrel
          have hzq := hQ.size
          have hkn : ∀ b, u8.ownBlock = some b → wo.heap.size ≤ b := fun b hb => (World.ownsRow.lt hkey b hb).1
          have HKN := Lib.hid hkn; clear hkn
          by_cases hcn : c < n
          · have hsn := HSN.out c hcn
            have hcn' : (c : Int) < (n : Int) := by omega
            have hal := below_alloc wr (.cells #[.int .u8 0, .int .i64 0, .string ⟨#[]⟩, .bool false] 39)
            have hH := heap_new1 wr (.cells #[.int .u8 0, .int .i64 0, .string ⟨#[]⟩, .bool false] 39)
            by_cases hcr : c < r.length
            · obtain ⟨b2, off2, hra, hss, x0, x1, x2, x3⟩ := HRC.out c hcr
              subst hra
              have hBq := below_then (below_then hB hQ) hal
              have x0' := keeper hBq x0
              have x1' := keeper hBq x1
              have x2' := keeper hBq x2
              have x3' := keeper hBq x3
              have hra2 := fun w => right_at r[c] hss w
              have hgd : r.getD c V0 = r[c] := by simp [hcr]
              have hpk : ∀ rb, rightB r[c] = rb → pickV r c = if rb = true then r[c] else V0 := fun rb e => by
                unfold pickV
                rw [hgd]
                by_cases e2 : rb = true
                · rw [if_pos e2, if_pos ⟨hcr, e.trans e2⟩]
                · rw [if_neg e2, if_neg (fun x => e2 (e ▸ x.2))]
              obtain ⟨x, hx⟩ : ∃ x, x = r[c] := ⟨_, rfl⟩
              rw [← hx] at x0' x1' x2' x3' hra2 hpk
              obtain ⟨xk, xi, xs, xb⟩ := x
              unfold V.val at hra2
              simp only at x0' x1' x2' x3' hra2
              obtain ⟨rb, hrb⟩ : ∃ rb, rb = rightB ⟨xk, xi, xs, xb⟩ := ⟨_, rfl⟩
              rw [← hrb] at hra2
              have hpk2 := hpk rb hrb.symm
              have hcr' : (c : Int) < (r.length : Int) := by omega
              have hc0 : (0 : Int) ≤ (c : Int) := by omega
              have HRA := Lib.hid hra2; have HPK := Lib.hid hpk2; have HS := Lib.hid hsn
              clear hra2 hpk2 hpk hsn x0 x1 x2 x3 hgd hx hrb hss
              go_wp2_with fail
              obtain ⟨q, hq⟩ : ∃ q, q = wr.heap.size := ⟨_, rfl⟩
              rw [← hq] at hH
              rw [← hq]
              have HQ := Lib.hid hq
              clear hq
              refine (HRA.out _).mono ?_
              rintro e w1 ⟨rfl, hk1⟩
              have hq1 := keepb hk1 hH
              have hB1 := hQ.trans ((below_then hal hk1).mono hQ.size)
              have hkey1 := row_same hkey (below_then hal hk1)
              have z0 : w1.cell? ⟨q, 0, none⟩ = some (.int .u8 0) := cell_of_block hq1 rfl
              have z1 : w1.cell? ⟨q, 1, none⟩ = some (.int .i64 0) := cell_of_block hq1 rfl
              have z2 : w1.cell? ⟨q, 2, none⟩ = some (.string ⟨#[]⟩) := cell_of_block hq1 rfl
              have z3 : w1.cell? ⟨q, 3, none⟩ = some (.bool false) := cell_of_block hq1 rfl
              cases rb with
              | true =>
                have y0 : w1.frozen? ⟨q, 0, none⟩ = false := free_of_block hq1
                have y1 : w1.frozen? ⟨q, 1, none⟩ = false := free_of_block hq1
                have y2 : w1.frozen? ⟨q, 2, none⟩ = false := free_of_block hq1
                have y3 : w1.frozen? ⟨q, 3, none⟩ = false := free_of_block hq1
                have v0 := keeper hk1 x0'
                have v1 := keeper hk1 x1'
                have v2 := keeper hk1 x2'
                have v3 := keeper hk1 x3'
                have hset := set4_heap hq1 (.int .u8 xk) (.int .i64 xi) (.string xs) (.bool xb)
                have hqo : wo.heap.size ≤ q := by rw [HQ.out]; exact hQ.size
                have hus := set4_upd (Upd.refl (fun b => b = q) w1) (b := q) (fun _ => rfl) (.int .u8 xk) (.int .i64 xi) (.string xs) (.bool xb)
                have hB2 : Below wo.heap.size wo ((((w1.setCell ⟨q, 0, none⟩ (.int .u8 xk)).setCell ⟨q, 1, none⟩ (.int .i64 xi)).setCell ⟨q, 2, none⟩ (.string xs)).setCell ⟨q, 3, none⟩ (.bool xb)) := hB1.trans (hus.below hB1.size (fun b hb e => by omega))
                have hkq : ∀ b, u8.ownBlock = some b → ¬ b = q := fun b hb e => by have := (World.ownsRow.lt hkey b hb).2; have := HQ.out; omega
                have HKEY := Lib.hid (ownsRow_upd hkey1 hus hkq)
                have HBL := Lib.hid hB2
                have t0 : ((((w1.setCell ⟨q, 0, none⟩ (.int .u8 xk)).setCell ⟨q, 1, none⟩ (.int .i64 xi)).setCell ⟨q, 2, none⟩ (.string xs)).setCell ⟨q, 3, none⟩ (.bool xb)).cell? ⟨q, 0, none⟩ = some (.int .u8 xk) := cell_of_block hset rfl
                have t1 : ((((w1.setCell ⟨q, 0, none⟩ (.int .u8 xk)).setCell ⟨q, 1, none⟩ (.int .i64 xi)).setCell ⟨q, 2, none⟩ (.string xs)).setCell ⟨q, 3, none⟩ (.bool xb)).cell? ⟨q, 1, none⟩ = some (.int .i64 xi) := cell_of_block hset rfl
                have t2 : ((((w1.setCell ⟨q, 0, none⟩ (.int .u8 xk)).setCell ⟨q, 1, none⟩ (.int .i64 xi)).setCell ⟨q, 2, none⟩ (.string xs)).setCell ⟨q, 3, none⟩ (.bool xb)).cell? ⟨q, 2, none⟩ = some (.string xs) := cell_of_block hset rfl
                have t3 : ((((w1.setCell ⟨q, 0, none⟩ (.int .u8 xk)).setCell ⟨q, 1, none⟩ (.int .i64 xi)).setCell ⟨q, 2, none⟩ (.string xs)).setCell ⟨q, 3, none⟩ (.bool xb)).cell? ⟨q, 3, none⟩ = some (.bool xb) := cell_of_block hset rfl
                clear hset hus hB2 hkey1 hq1 hH x0' x1' x2' x3' hB1
                have HPK := Lib.hid (HPK.out.trans (if_pos rfl))
                go_upto_region 13 with fail
                generalize ((((w1.setCell ⟨q, 0, none⟩ (.int .u8 xk)).setCell ⟨q, 1, none⟩ (.int .i64 xi)).setCell ⟨q, 2, none⟩ (.string xs)).setCell ⟨q, 3, none⟩ (.bool xb)) = w2 at *
                clear z0 z1 z2 z3 y0 y1 y2 y3 v0 v1 v2 v3
                go_wp2_with (at_builtin; refine wpList_append_mine rfl (.tmp 40) (.tmp 42) 34 rfl wo.heap.size 39 i39 (.agg #[.int .u8 0, .int .i64 0, .string ByteArray.empty, .bool false]) 4 40 Try.underlying34 hi39 hz390 hz391 hz392 rfl (by decide) _ _ _ rfl (World.ownsRow.alloc HKEY.out (.cells #[.int .u8 xk, .int .i64 xi, .string xs, .bool xb] 39)) ⟨w2.heap.size, 0, none⟩ 1 1 [.int .u8 xk, .int .i64 xi, .string xs, .bool xb] rfl rfl ?c1 ?c2 ?c3 ?c4 ?c5 ?_)
                case c1 => first | exact fun j u h => h | exact news_cells (heap_new1 _ _)
                case c2 => intro u hu; simp at hu; rcases hu with rfl | rfl | rfl | rfl <;> rfl
                case c3 => unfold maxLen; omega
                case c4 => omega
                case c5 => have := HBL.out.size; first | omega | (simp; omega)
                intro v' w5 hown' hupd hnew
                have hb5 : Below wo.heap.size wo w5 := HBL.out.trans (Upd.below (S := fun b => u8.ownBlock = some b) ((Upd.same (below_alloc _ _)).trans hupd) HBL.out.size (fun b hb e => by have := HKN.out _ e; omega))
                clear hupd hnew
                go_wp2_with fail
                go_roundw
                case rel => exact ⟨c + 1, by omega, by go_num, by rw [HS.out, HPK.out]; exact hown', hb5⟩
                case measure => simp [intOf]; omega
              | false =>
                have HKEY := Lib.hid hkey1
                have HBL := Lib.hid hB1
                clear hkey1 hq1 hH x0' x1' x2' x3' hB1
                have HPK := Lib.hid (HPK.out.trans (if_neg (by decide)))
                go_wp2_with (at_builtin; refine wpList_append_mine rfl (.tmp 40) (.tmp 42) 34 rfl wo.heap.size 39 i39 (.agg #[.int .u8 0, .int .i64 0, .string ByteArray.empty, .bool false]) 4 40 Try.underlying34 hi39 hz390 hz391 hz392 rfl (by decide) _ _ _ rfl (World.ownsRow.alloc HKEY.out (.cells #[.int .u8 0, .int .i64 0, .string ⟨#[]⟩, .bool false] 39)) ⟨(w1).heap.size, 0, none⟩ 1 1 [.int .u8 0, .int .i64 0, .string ⟨#[]⟩, .bool false] rfl rfl ?f1 ?f2 ?f3 ?f4 ?f5 ?_)
                case f1 => first | exact fun j u h => h | exact news_cells (heap_new1 _ _)
                case f2 => intro u hu; simp at hu; rcases hu with rfl | rfl | rfl | rfl <;> rfl
                case f3 => unfold maxLen; omega
                case f4 => omega
                case f5 => have := HBL.out.size; first | omega | (simp; omega)
                intro v' w5 hown' hupd hnew
                have hb5 : Below wo.heap.size wo w5 := HBL.out.trans (Upd.below (S := fun b => u8.ownBlock = some b) ((Upd.same (below_alloc _ _)).trans hupd) HBL.out.size (fun b hb e => by have := HKN.out _ e; omega))
                clear hupd hnew
                go_wp2_with fail
                go_roundw
                case rel => exact ⟨c + 1, by omega, by go_num, by rw [HS.out, HPK.out]; exact hown', hb5⟩
                case measure => simp [intOf]; omega
            · have hpk : pickV r c = V0 := by unfold pickV; rw [if_neg (fun x => hcr x.1)]
              have hcr' : ¬ (c : Int) < (r.length : Int) := by omega
              obtain ⟨q, hq⟩ : ∃ q, q = wr.heap.size := ⟨_, rfl⟩
              rw [← hq] at hH
              have z0 : (wr.alloc (.cells #[.int .u8 0, .int .i64 0, .string ⟨#[]⟩, .bool false] 39)).cell? ⟨q, 0, none⟩ = some (.int .u8 0) := cell_of_block hH rfl
              have z1 : (wr.alloc (.cells #[.int .u8 0, .int .i64 0, .string ⟨#[]⟩, .bool false] 39)).cell? ⟨q, 1, none⟩ = some (.int .i64 0) := cell_of_block hH rfl
              have z2 : (wr.alloc (.cells #[.int .u8 0, .int .i64 0, .string ⟨#[]⟩, .bool false] 39)).cell? ⟨q, 2, none⟩ = some (.string ⟨#[]⟩) := cell_of_block hH rfl
              have z3 : (wr.alloc (.cells #[.int .u8 0, .int .i64 0, .string ⟨#[]⟩, .bool false] 39)).cell? ⟨q, 3, none⟩ = some (.bool false) := cell_of_block hH rfl
              have HKEY := Lib.hid (row_same hkey hal)
              have HBL := Lib.hid (hQ.trans (hal.mono hQ.size))
              have HPK := Lib.hid hpk; have HS := Lib.hid hsn
              clear hpk hsn hH
              go_upto_region 13 with fail
              rw [← hq]
              clear hq
              generalize (wr.alloc (.cells #[.int .u8 0, .int .i64 0, .string ⟨#[]⟩, .bool false] 39)) = w2 at *
              go_wp2_with (at_builtin; refine wpList_append_mine rfl (.tmp 40) (.tmp 42) 34 rfl wo.heap.size 39 i39 (.agg #[.int .u8 0, .int .i64 0, .string ByteArray.empty, .bool false]) 4 40 Try.underlying34 hi39 hz390 hz391 hz392 rfl (by decide) _ _ _ rfl (World.ownsRow.alloc HKEY.out (.cells #[.int .u8 0, .int .i64 0, .string ⟨#[]⟩, .bool false] 39)) ⟨w2.heap.size, 0, none⟩ 1 1 [.int .u8 0, .int .i64 0, .string ⟨#[]⟩, .bool false] rfl rfl ?e1 ?e2 ?e3 ?e4 ?e5 ?_)
              case e2 => first | (intro u hu; simp at hu; rcases hu with rfl | rfl | rfl | rfl <;> rfl) | exact ⟨rfl, rfl, rfl, rfl⟩
              case e3 => unfold maxLen; omega
              case e4 => omega
              case e5 => have := HBL.out.size; first | omega | (simp; omega)
              intro v' w5 hown' hupd hnew
              have hb5 : Below wo.heap.size wo w5 := HBL.out.trans (Upd.below (S := fun b => u8.ownBlock = some b) ((Upd.same (below_alloc _ _)).trans hupd) HBL.out.size (fun b hb e => by have := HKN.out _ e; omega))
              clear hupd hnew
              go_wp2_with fail
              go_roundw
              case rel => exact ⟨c + 1, by omega, by go_num, by rw [HS.out, HPK.out]; exact hown', hb5⟩
              case measure => simp [intOf]; omega
          · have hcl : c = n := by omega
            subst hcl
            have htk : (fewRow c r).take c = fewRow c r := List.take_of_length_le (by rw [fewRow_len]; exact Nat.le_refl _)
            rw [htk] at hkey
            have hBo := below_then hB hQ
            obtain ⟨ka, kc, hka⟩ := ownsRow_slice hkey
            subst hka
            have HKEY := Lib.hid hkey
            have HBL := Lib.hid hBo
            clear hkey htk
            go_wp2_with (at_builtin; refine wpList_append_mine rfl (.tmp 45) (.tmp 47) 22 rfl w.heap.size 34 i34 (.slice none 0 0) 1 24 Try.underlying22 hi34 hz340 hz341 hz342 rfl (by decide) _ _ _ rfl (World.ownsRow.alloc (row_same hown hQ) (.cells #[.slice ka c kc] 34)) ⟨wr.heap.size, 0, none⟩ 1 1 [.slice ka c kc] rfl rfl ?d1 ?d2 ?d3 ?d4 ?d5 ?_)
            case d1 => first | exact fun j u h => h | exact cell_one_new _ _ _
            case d2 => intro u hu; simp at hu; subst hu; rfl
            case d3 => unfold maxLen; omega
            case d4 => omega
            case d5 => have := HBL.out.size; first | omega | (simp; omega)
            intro v' w5 hown' hupd hnew
            have hal2 := below_alloc wr (.cells #[.slice ka c kc] 34)
            have hup : Upd (fun b => u5.ownBlock = some b) wr w5 := (Upd.same hal2).trans hupd
            have hb5 : Below w.heap.size w w5 := HBL.out.trans (Upd.below hup HBL.out.size (fun b hb e => by have := HWN.out _ e; omega))
            have hrow0 := row_same hown hQ
            have hE2 : ∀ (j : Nat) (hj : j < F.length) (u : Value), (vals ++ [.slice ka c kc])[j]? = some u → w5.ownsRow w.heap.size 39 4 u c (F[j].flatMap vcells) := fun j hj u hu => by
              by_cases e : j < k
              · rw [List.getElem?_append_left (by omega)] at hu
                have h1 := row_same (HE.out j hj u hu) hQ
                exact ownsRow_upd h1 hup (fun b hb e2 => rows_kinds h1 hrow0 (by decide) b hb e2)
              · have hjk : j = k := by
                  have := (List.getElem?_eq_some_iff.1 hu).1
                  simp at this; omega
                subst hjk
                rw [List.getElem?_append_right (by omega), hvl, Nat.sub_self] at hu
                obtain rfl : Value.slice ka c kc = u := by simpa using hu
                have h1 := ownsRow_base HKEY.out hz
                rw [HFK.out]
                exact ownsRow_upd h1 hup (fun b hb e2 => rows_kinds h1 hrow0 (by decide) b hb e2)
            have HE2 := Lib.hid hE2
            clear hE2 hupd hup hrow0 hnew
            go_wp2_with fail
            go_roundw
            case rel => exact ⟨k + 1, _, by omega, by go_num, hown', HE2.out, hb5⟩
            case measure => simp [intOf]; omega
      · have hk40 : k = 40 := by omega
        have hkF : k = F.length := by rw [HFE.out]; omega
        subst hkF
        have h40' : (40 : Int) ≤ (F.length : Int) := by omega
        have hlt2 : (F.length : Int) < (L.length : Int) := by omega
        clear hk40
        have HF := Lib.hid hown
        go_wp2_with fail
        go_ret
        first | exact ⟨_, vals, rfl, HF.out, fun j hj u hu => HE.out j hj u hu, hB⟩ | exact ⟨_, rfl, vals, HF.out, fun j hj u hu => HE.out j hj u hu, hB⟩
    · have hkF : k = F.length := by rw [HFE.out]; have := HFE.out; omega
      subst hkF
      have hlt' : ¬ (F.length : Int) < (L.length : Int) := by omega
      have HF := Lib.hid hown
      go_wp2_with fail
      go_ret
      first | exact ⟨_, vals, rfl, HF.out, fun j hj u hu => HE.out j hj u hu, hB⟩ | exact ⟨_, rfl, vals, HF.out, fun j hj u hu => HE.out j hj u hu, hB⟩
theorem few_at {w : World} {lv : Value} {L : List (List V)} {n : Nat} (hL : KeysIn w lv L) (hn : n ≤ 3) :
    Calls Try.prog 10 #[lv, .int .i64 n] w fun r w' => ∃ v, r = .returned v ∧ KeysAt w' v (fewR n L) ∧ ((v = .slice none 0 0 ∧ fewR n L = []) ∨ ∃ g cap, v = .slice (some ⟨g, 0, none⟩) (fewR n L).length cap ∧ (fewR n L).length ≤ cap) ∧ Below w.heap.size w w' :=
  (few_own hL hn).mono fun r w' ⟨v, vals, h1, h2, h3, h4⟩ => ⟨v, h1, KeysAt.rows (ownsRow_base h2 (Nat.zero_le _)) (by have := fewR_len n L; omega) (by omega) (fewR_all n L) (fun j hj u hu => ownsRow_base (h3 j hj u hu) (Nat.zero_le _)), own_form h2, h4⟩
end Go.Proofs.Ytifcdfilglbdgaa
