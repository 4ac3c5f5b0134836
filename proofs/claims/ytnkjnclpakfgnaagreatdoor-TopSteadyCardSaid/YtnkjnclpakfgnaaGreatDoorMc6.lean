/- All plugs together: the executor of TopSteady. · The store at rest, told in short; rounds, as they are run. No conditions. -/
import Derived.Test.YtnkjnclpakfgnaaGreatDoorMk2
import Derived.Test.YtnkjnclpakfgnaaGreatDoorMa8
import Derived.KernelRfl
namespace Go.Proofs.YtnkjnclpakfgnaaGreatDoor
namespace X
open Go.RowKit

def kpT : T Nat := (.n (.n (.n (.n (.n (.n (.n (.n (.n (.l 0) (.l 7)) (.n (.l 71) (.l 19))) (.n (.n (.l 3670727) (.l 19)) (.n (.l 511) (.l 0)))) (.n (.n (.n (.l 12339) (.l 5)) (.n (.l 5) (.l 5))) (.n (.n (.l 59) (.l 1)) (.n (.l 5) (.l 0))))) (.n (.n (.n (.n (.l 29) (.l 23)) (.n (.l 1835091) (.l 5))) (.n (.n (.l 61) (.l 2045)) (.n (.l 5) (.l 0)))) (.n (.n (.n (.l 11) (.l 3103)) (.n (.l 5) (.l 5))) (.n (.n (.l 229555) (.l 116599)) (.n (.l 883) .e))))) (.n (.n (.n (.n (.n (.l 5) (.l 117456215)) (.n (.l 79) (.l 31))) (.n (.n (.l 943) (.l 4027)) (.n (.l 15) (.l 0)))) (.n (.n (.n (.l 490351) (.l 16243)) (.n (.l 13) (.l 13))) (.n (.n (.l 5) (.l 493)) (.n (.l 3103) (.l 0))))) (.n (.n (.n (.n (.l 1981) (.l 943)) (.n (.l 7951) (.l 51))) (.n (.n (.l 19) (.l 6597069767165)) (.n (.l 243) (.l 0)))) (.n (.n (.n (.l 12339) (.l 19)) (.n (.l 919543) (.l 7))) (.n (.n (.l 4035225266125798431) (.l 1019)) (.n (.l 5) .e)))))) (.n (.n (.n (.n (.n (.n (.l 1813392765069422449506247) (.l 445)) (.n (.l 5) (.l 23))) (.n (.n (.l 51) (.l 967)) (.n (.l 228639) (.l 0)))) (.n (.n (.n (.l 221) (.l 31)) (.n (.l 31) (.l 551912735231))) (.n (.n (.l 5) (.l 19)) (.n (.l 199) (.l 0))))) (.n (.n (.n (.n (.l 246320669394355) (.l 15)) (.n (.l 19) (.l 23))) (.n (.n (.l 5) (.l 19)) (.n (.l 23) (.l 0)))) (.n (.n (.n (.l 920399) (.l 3)) (.n (.l 14419) (.l 5))) (.n (.n (.l 7951) (.l 5)) (.n (.l 5) .e))))) (.n (.n (.n (.n (.n (.l 504403173305737013) (.l 29)) (.n (.l 87) (.l 435))) (.n (.n (.l 5) (.l 962072804339)) (.n (.l 983) (.l 0)))) (.n (.n (.n (.l 7) (.l 435)) (.n (.l 1) (.l 13))) (.n (.n (.l 5) (.l 0)) (.n (.l 4159) .e)))) (.n (.n (.n (.n (.l 962072675059) (.l 2115615)) (.n (.l 7951) (.l 7))) (.n (.n (.l 123145537192285) (.l 51)) (.n (.l 83) (.l 0)))) (.n (.n (.n (.l 13) (.l 5)) (.n (.l 31) (.l 0))) (.n (.n (.l 1015) (.l 11)) (.n (.l 3) .e))))))) (.n (.n (.n (.n (.n (.n (.n (.l 0) (.l 7)) (.n (.l 5) (.l 5))) (.n (.n (.l 71) (.l 4055)) (.n (.l 939532287) (.l 0)))) (.n (.n (.n (.l 5) (.l 197)) (.n (.l 19) (.l 783))) (.n (.n (.l 116047) (.l 19)) (.n (.l 7) (.l 0))))) (.n (.n (.n (.n (.l 5) (.l 1924145351671)) (.n (.l 115) (.l 3))) (.n (.n (.l 3) (.l 11)) (.n (.l 29) (.l 0)))) (.n (.n (.n (.l 230087) (.l 8189)) (.n (.l 260415) (.l 199))) (.n (.n (.l 11) (.l 63)) (.n (.l 5) .e))))) (.n (.n (.n (.n (.n (.l 3729837) (.l 15)) (.n (.l 1015) (.l 0))) (.n (.n (.l 31) (.l 3)) (.n (.l 4878288012178578145001075870972791226621427) (.l 0)))) (.n (.n (.n (.l 19) (.l 19)) (.n (.l 483) (.l 455))) (.n (.n (.l 253) (.l 0)) (.n (.l 5) .e)))) (.n (.n (.n (.n (.l 199) (.l 16247)) (.n (.l 36028797018996495) (.l 127))) (.n (.n (.l 1056733) (.l 917975)) (.n (.l 39) (.l 0)))) (.n (.n (.n (.l 12339) (.l 115)) (.n (.l 7523533779) (.l 51))) (.n (.n (.l 1479) (.l 5)) (.n (.l 7) .e)))))) (.n (.n (.n (.n (.n (.n (.l 58785735) (.l 60239)) (.n (.l 115) (.l 967))) (.n (.n (.l 119) (.l 967)) (.n (.l 127) (.l 0)))) (.n (.n (.n (.l 3101) (.l 240519100151)) (.n (.l 15) (.l 31))) (.n (.n (.l 2096159) (.l 2045)) (.n (.l 435) (.l 0))))) (.n (.n (.n (.n (.l 5) (.l 243)) (.n (.l 5) (.l 4063))) (.n (.n (.l 103) (.l 5)) (.n (.l 47) (.l 0)))) (.n (.n (.n (.l 71) (.l 115)) (.n (.l 1841999) (.l 5))) (.n (.n (.l 1479) (.l 5)) (.n (.l 13053) .e))))) (.n (.n (.n (.n (.n (.l 61) (.l 19)) (.n (.l 5) (.l 511))) (.n (.n (.l 61) (.l 4294973687)) (.n (.l 19) (.l 0)))) (.n (.n (.n (.l 15032385581) (.l 211)) (.n (.l 7) (.l 115))) (.n (.n (.l 1) (.l 55)) (.n (.l 13) .e)))) (.n (.n (.n (.n (.l 455) (.l 5)) (.n (.l 15391) (.l 393277))) (.n (.n (.l 5) (.l 79)) (.n (.l 5) (.l 0)))) (.n (.n (.n (.l 939524253) (.l 5)) (.n (.l 130551) (.l 0))) (.n (.n (.l 126100789625126839) (.l 230343)) (.n (.l 7) .e)))))))) (.n (.n (.n (.n (.n (.n (.n (.n (.l 0) (.l 3)) (.n (.l 5) (.l 13))) (.n (.n (.l 1971) (.l 119)) (.n (.l 234911535) (.l 0)))) (.n (.n (.n (.l 125) (.l 27)) (.n (.l 5) (.l 230343))) (.n (.n (.l 5) (.l 19)) (.n (.l 271) (.l 0))))) (.n (.n (.n (.n (.l 3015) (.l 35184509980659)) (.n (.l 16140962637147130733) (.l 3))) (.n (.n (.l 38378597448084403519455) (.l 435)) (.n (.l 115) (.l 0)))) (.n (.n (.n (.l 14381) (.l 0)) (.n (.l 15032414031) (.l 499))) (.n (.n (.l 3605) (.l 63)) (.n (.l 5) .e))))) (.n (.n (.n (.n (.n (.l 5) (.l 435)) (.n (.l 31) (.l 0))) (.n (.n (.l 19) (.l 435)) (.n (.l 12175) (.l 0)))) (.n (.n (.n (.l 98547) (.l 895)) (.n (.l 15) (.l 13))) (.n (.n (.l 5) (.l 115)) (.n (.l 5) .e)))) (.n (.n (.n (.n (.l 51) (.l 31)) (.n (.l 7943) (.l 115))) (.n (.n (.l 115) (.l 131451)) (.n (.l 223) (.l 0)))) (.n (.n (.n (.l 735) (.l 5)) (.n (.l 16243) (.l 7))) (.n (.n (.l 15) (.l 115)) (.n (.l 71) .e)))))) (.n (.n (.n (.n (.n (.n (.l 15) (.l 941)) (.n (.l 7) (.l 19))) (.n (.n (.l 1871) (.l 123)) (.n (.l 1975) (.l 0)))) (.n (.n (.n (.l 5) (.l 1083197534374707740537716687)) (.n (.l 5) (.l 51))) (.n (.n (.l 264691) (.l 435)) (.n (.l 797) (.l 0))))) (.n (.n (.n (.n (.l 5) (.l 19)) (.n (.l 19) (.l 29))) (.n (.n (.l 5) (.l 11)) (.n (.l 243) (.l 0)))) (.n (.n (.n (.l 243) (.l 51)) (.n (.l 59) (.l 5))) (.n (.n (.l 15) (.l 525303)) (.n (.l 100677469) .e))))) (.n (.n (.n (.n (.n (.l 412316860479) (.l 199)) (.n (.l 7411) (.l 5))) (.n (.n (.l 49907) (.l 15551)) (.n (.l 8873554201597605818173504616435) (.l 0)))) (.n (.n (.n (.l 125) (.l 435)) (.n (.l 455) (.l 115))) (.n (.n (.l 19) (.l 3)) (.n (.l 19) .e)))) (.n (.n (.n (.n (.l 229565) (.l 231331)) (.n (.l 7199) (.l 15))) (.n (.n (.l 1871) (.l 3)) (.n (.l 3133) (.l 0)))) (.n (.n (.n (.l 1) (.l 455)) (.n (.l 23823) (.l 0))) (.n (.n (.l 247) (.l 5)) (.n (.l 5) .e))))))) (.n (.n (.n (.n (.n (.n (.n (.l 14167099448669065248711) (.l 51)) (.n (.l 19) (.l 435))) (.n (.n (.l 29383) (.l 31)) (.n (.l 31) (.l 0)))) (.n (.n (.n (.l 5) (.l 11)) (.n (.l 32701) (.l 33553439))) (.n (.n (.l 87) (.l 51)) (.n (.l 5) (.l 0))))) (.n (.n (.n (.n (.l 98429) (.l 1)) (.n (.l 3) (.l 981))) (.n (.n (.l 19) (.l 11)) (.n (.l 37778931862957161709693) (.l 0)))) (.n (.n (.n (.l 967) (.l 5)) (.n (.l 1) (.l 1039))) (.n (.n (.l 15) (.l 63)) (.n (.l 885443715538058533875) .e))))) (.n (.n (.n (.n (.n (.l 1395) (.l 1019)) (.n (.l 13) (.l 33554483))) (.n (.n (.l 115) (.l 911)) (.n (.l 1023) (.l 0)))) (.n (.n (.n (.l 262259) (.l 5)) (.n (.l 19) (.l 3103))) (.n (.n (.l 7) (.l 3)) (.n (.l 271) .e)))) (.n (.n (.n (.n (.l 2035) (.l 2417870085973607473782775)) (.n (.l 775) (.l 51))) (.n (.n (.l 31) (.l 1023)) (.n (.l 183) (.l 0)))) (.n (.n (.n (.l 13) (.l 115)) (.n (.l 943) (.l 0))) (.n (.n (.l 15762613728243447) (.l 7)) (.n (.l 7) .e)))))) (.n (.n (.n (.n (.n (.n (.l 1879049715) (.l 87)) (.n (.l 5) (.l 31))) (.n (.n (.l 3848290705395) (.l 81129638414606682821688979097847)) (.n (.l 63) (.l 0)))) (.n (.n (.n (.l 4039) (.l 537169187919003587935091)) (.n (.l 15) (.l 5))) (.n (.n (.l 5) (.l 5)) (.n (.l 435) (.l 0))))) (.n (.n (.n (.n (.l 1991) (.l 4079)) (.n (.l 783) (.l 115))) (.n (.n (.l 116495) (.l 31)) (.n (.l 71) (.l 0)))) (.n (.n (.n (.l 59) (.l 5)) (.n (.l 243) (.l 37783548052575216730143))) (.n (.n (.l 15) (.l 2039)) (.n (.l 389) .e))))) (.n (.n (.n (.n (.n (.l 6205) (.l 51)) (.n (.l 7) (.l 253))) (.n (.n (.l 35184372104519) (.l 4194551)) (.n (.l 0) (.l 0)))) (.n (.n (.n (.l 19) (.l 109)) (.n (.l 15519) (.l 5))) (.n (.n (.l 29) (.l 562950012145399)) (.n (.l 5) .e)))) (.n (.n (.n (.n (.l 16528314215481675791391) (.l 19)) (.n (.l 5) (.l 19))) (.n (.n (.l 1879281075) (.l 12487)) (.n (.l 5) (.l 0)))) (.n (.n (.n (.l 19) (.l 939538605)) (.n (.l 243) (.l 0))) (.n (.n (.l 19) (.l 5)) (.n (.l 5) .e)))))))))
noncomputable def kp (f : Nat) : Nat := (kpT.get f).rec 0 (fun m => m)

def strs : List V := [.str [97, 110, 100], .str [97, 115], .str [97, 115, 99], .str [98, 101, 103, 105, 110], .str [98, 111, 111, 108], .str [98, 121], .str [99, 111, 109, 109, 105, 116], .str [99, 111, 117, 110, 116], .str [99, 114, 101, 97, 116, 101], .str [100, 101, 108, 101, 116, 101], .str [100, 101, 115, 99], .str [100, 114, 111, 112], .str [102, 97, 108, 115, 101], .str [102, 114, 111, 109], .str [103, 114, 111, 117, 112], .str [105, 110, 100, 101, 120], .str [105, 110, 115, 101, 114, 116], .str [105, 110, 116], .str [105, 110, 116, 111], .str [105, 115], .str [106, 111, 105, 110], .str [108, 105, 109, 105, 116], .str [109, 97, 120], .str [109, 105, 110], .str [110, 111, 116], .str [110, 117, 108, 108], .str [111, 110], .str [111, 114], .str [111, 114, 100, 101, 114], .str [114, 111, 108, 108, 98, 97, 99, 107], .str [115, 101, 108, 101, 99, 116], .str [115, 101, 116], .str [115, 117, 109], .str [116, 97, 98, 108, 101], .str [116, 101, 120, 116], .str [116, 114, 117, 101], .str [117, 112, 100, 97, 116, 101], .str [118, 97, 108, 117, 101, 115], .str [119, 104, 101, 114, 101]]

noncomputable def sel {α : Type} (f : Nat) (l : List (Nat × α)) : Option α := l.rec none (fun x _ ih => (Nat.beq x.1 f).rec ih (some x.2))
noncomputable def pls (f : Nat) : Bool := lmem f [162, 243, 358, 336, 78, 60, 111, 97, 83, 68, 70, 321, 140, 94, 59, 176, 328, 55, 280, 96, 76, 77, 323, 133, 324, 326, 273, 71, 90, 261, 315, 38]
noncomputable def plug0 : CF MM → CF MM := fun cf f args s => ob (sel f [
  (78, ob (fnT Tryz.prog 78) fun fn => run78 cf (kp 78) (drR Tryz.prog cf fn.ntmps) fn args s),
  (60, pClogNew args s), (111, pBegin args s), (97, pNext args s), (83, pCommit args s), (68, pState args s), (70, pVis args s), (321, pFree args s), (140, pDead args s), (94, pHor args s),
  (59, pPool args s), (176, pHnew args s), (328, pIns args s), (55, pGet args s), (280, pStamp args s), (96, pHfree args s), (76, pHpages args s), (77, pHpage args s),
  (323, pOrd args s), (133, pCopyOf args s), (324, pSIns 145 3 args s), (326, pSIns 213 1 args s), (273, qBytes cf args s), (71, qRead 60 cf args s), (90, qKey cf args s), (261, pRt args s), (315, pAdd args s), (38, pAll args s)]) (fun x => x)
noncomputable def plug : CF MM → CF MM := fun cf f args s => (lmem f [162, 243, 358, 336]).rec (plug0 cf f args s) (ob (libP f args) fun v => some (v, s))
noncomputable def cn (k : Nat) : CF MM := callN Tryz.prog kp (fun cf n => drR Tryz.prog cf n) pls plug k

theorem sel_ok {α : Type} {f : Nat} {x : α} : ∀ {l : List (Nat × α)}, sel f l = some x → (f, x) ∈ l
  | [], h => by cases h
  | y :: l, h => by
    have h : (Nat.beq y.1 f).rec (sel f l) (some y.2) = some x := h
    cases hb : Nat.beq y.1 f with
    | true =>
      rw [hb] at h
      have := Nat.eq_of_beq_eq_true hb
      cases h
      rw [← this]; exact .head _
    | false => rw [hb] at h; exact .tail _ (sel_ok h)
theorem hmix : Tryz.prog.follows .mixedOrders = true := by kernel_rfl
noncomputable def namesOk : Bool := Tryz.prog.funcs.toList.all fun f => !(f.name == "runtime.NumGoroutine")
theorem namesOk_eq : namesOk = true := by kernel_rfl
theorem hplain : Plain Tryz.prog := { go := fun f fn h => by
                                        have := List.all_eq_true.1 namesOk_eq fn (by
                                          have := Array.mem_of_getElem? h
                                          simpa using this)
                                        simpa using this
                                      pair := pairKind124 }
theorem fn78_ok {cf : CF MM} {N : Int} (hcf : CallOk (IT N) Tryz.prog cf) {args : List V} {s s' : SM} {v : V} (h : (ob (fnT Tryz.prog 78) fun fn => run78 cf (kp 78) (drR Tryz.prog cf fn.ntmps) fn args s) = some (v, s')) : Ans (IT N) 78 args s v s' := by
  generalize hf : fnT Tryz.prog 78 = o at h
  cases o with
  | none => cases h
  | some fn =>
    have h : run78 cf (kp 78) (drR Tryz.prog cf fn.ntmps) fn args s = some (v, s') := h
    have hf' : Tryz.prog.funcs[78]? = some fn := by
      have h2 := hf
      unfold fnT at h2
      rw [lget_eq, Array.getElem?_toList] at h2
      exact h2
    intro K E w A hS hA
    exact run78_ok hplain hcf (drR_ok (I := IT N) (cf := cf) hplain hmix (@hcf) fn.ntmps) hf' h hS hA
theorem plug_ok {N : Int} (h94 : ∀ {args : List V} {s s' : SM} {v : V}, pHor args s = some (v, s') → Ans (IT N) 94 args s v s') : PlugOk (IT N) Tryz.prog pls plug := by
  intro cf hcf f args s s' v _ h K E w A hS hA
  · unfold plug at h
    cases hl : lmem f [162, 243, 358, 336] with
    | true =>
      rw [hl] at h
      obtain ⟨u, hu, h⟩ := ob_eq h
      cases h
      exact libP_ans hu hS hA
    | false =>
      rw [hl] at h
      have h : plug0 cf f args s = some (v, s') := h
      obtain ⟨x, hx, h⟩ := ob_eq h
      have hm := sel_ok hx
      have h : x = some (v, s') := h
      rw [h] at hm
      clear h hx
      simp only [List.mem_cons, List.not_mem_nil, or_false] at hm
      rcases hm with hm | hm | hm | hm | hm | hm | hm | hm | hm | hm | hm | hm | hm | hm | hm | hm | hm | hm | hm | hm | hm | hm | hm | hm | hm | hm | hm | hm
      · rw [(Prod.mk.inj hm).1]; exact fn78_ok hcf ((Prod.mk.inj hm).2.symm) hS hA
      · rw [(Prod.mk.inj hm).1]; exact pClogNew_ok ((Prod.mk.inj hm).2.symm) hS hA
      · rw [(Prod.mk.inj hm).1]; exact pBegin_ok ((Prod.mk.inj hm).2.symm) hS hA
      · rw [(Prod.mk.inj hm).1]; exact pNext_ok ((Prod.mk.inj hm).2.symm) hS hA
      · rw [(Prod.mk.inj hm).1]; exact pCommit_ok ((Prod.mk.inj hm).2.symm) hS hA
      · rw [(Prod.mk.inj hm).1]; exact pState_ok ((Prod.mk.inj hm).2.symm) hS hA
      · rw [(Prod.mk.inj hm).1]; exact pVis_ok ((Prod.mk.inj hm).2.symm) hS hA
      · rw [(Prod.mk.inj hm).1]; exact pFree_ok ((Prod.mk.inj hm).2.symm) hS hA
      · rw [(Prod.mk.inj hm).1]; exact pDead_ok ((Prod.mk.inj hm).2.symm) hS hA
      · rw [(Prod.mk.inj hm).1]; exact h94 ((Prod.mk.inj hm).2.symm) hS hA
      · rw [(Prod.mk.inj hm).1]; exact pPool_ok ((Prod.mk.inj hm).2.symm) hS hA
      · rw [(Prod.mk.inj hm).1]; exact pHnew_ok ((Prod.mk.inj hm).2.symm) hS hA
      · rw [(Prod.mk.inj hm).1]; exact pIns_ok ((Prod.mk.inj hm).2.symm) hS hA
      · rw [(Prod.mk.inj hm).1]; exact pGet_ok ((Prod.mk.inj hm).2.symm) hS hA
      · rw [(Prod.mk.inj hm).1]; exact pStamp_ok ((Prod.mk.inj hm).2.symm) hS hA
      · rw [(Prod.mk.inj hm).1]; exact pHfree_ok ((Prod.mk.inj hm).2.symm) hS hA
      · rw [(Prod.mk.inj hm).1]; exact pHpages_ok ((Prod.mk.inj hm).2.symm) hS hA
      · rw [(Prod.mk.inj hm).1]; exact pHpage_ok ((Prod.mk.inj hm).2.symm) hS hA
      · rw [(Prod.mk.inj hm).1]; exact pOrd_ok ((Prod.mk.inj hm).2.symm) hS hA
      · rw [(Prod.mk.inj hm).1]; exact pCopyOf_ok ((Prod.mk.inj hm).2.symm) hS hA
      · rw [(Prod.mk.inj hm).1]; exact pSIns_ok insC324 ((Prod.mk.inj hm).2.symm) hS hA
      · rw [(Prod.mk.inj hm).1]; exact pSIns_ok insC326 ((Prod.mk.inj hm).2.symm) hS hA
      · rw [(Prod.mk.inj hm).1]; exact qBytes_ok hcf ((Prod.mk.inj hm).2.symm) hS hA
      · rw [(Prod.mk.inj hm).1]; exact qRead_ok hcf ((Prod.mk.inj hm).2.symm) hS hA
      · rw [(Prod.mk.inj hm).1]; exact qKey_ok hcf ((Prod.mk.inj hm).2.symm) hS hA
      · rw [(Prod.mk.inj hm).1]; exact pRt_ok ((Prod.mk.inj hm).2.symm) hS hA
      · rw [(Prod.mk.inj hm).1]; exact pAdd_ok ((Prod.mk.inj hm).2.symm) hS hA
      · rw [(Prod.mk.inj hm).1]; exact pAll_ok ((Prod.mk.inj hm).2.symm) hS hA
end X
end Go.Proofs.YtnkjnclpakfgnaaGreatDoor
namespace Go.Proofs.YtnkjnclpakfgnaaGreatDoor
namespace X

/-! ### the store at rest -/
/-- What a row says in b: 0 (cc = 0), or behind some rounds symbol 2; rows up to c, where cc is c + 1, one more: symbol 3. -/
noncomputable def vO (cc r : Nat) : Option V := nq cc (some z0) (bq (Nat.ble r (cc - 1)) (some (.sym .i64 2)) (some (.sym .i64 3)))
noncomputable def pageS (cc : Nat) (l : List Nat) : Option PgM := l.rec (some []) fun r _ ih => ob ih fun t => nq r (some (none :: t)) (ob (vO cc r) fun v => fN (r - 1) fun a => some (some ⟨r, false, 0, [.int .i64 (.ofNat a), v]⟩ :: t))
noncomputable def pagesS (cc : Nat) (l : List (List Nat)) : Option (List PgM) := l.rec (some []) fun x _ ih => ob (pageS cc x) fun p => ob ih fun t => some (p :: t)
/-- Entries, whose keys' names rise from k on. -/
noncomputable def entsS (l : List (Nat × Nat)) : Nat → Option (List V) := l.rec (fun _ => some []) fun x _ ih k => fN (k + 1) fun k' => ob (ih k') fun r => some (.bs k 9 :: .int .i64 (.ofNat x.1) :: .int .i64 (.ofNat x.2) :: r)
noncomputable def kysS (cc : Nat) (pages : List (List Nat)) (l : List (Nat × Nat)) : Nat → Option (List (Nat × V)) := l.rec (fun _ => some []) fun x _ ih k => fN (k + 1) fun k' => ob (lget x.1 pages) fun p => ob (lget x.2 p) fun r => ob (vO cc r) fun v => ob (ih k') fun t => some ((k, v) :: t)
/-- What is alike in all. -/
noncomputable def baseS (last : Nat) (rest : List (Nat × O)) : List (Nat × O) :=
  (3, .cells 568 strs) ::
  (8, .cells 74 [.ptr 9 0, .ptr 10 0, .ptr 11 0, .nilp, .nilp, .nilp, .nilp, .nilp]) ::
  (9, .cells 115 [.ptr 12 0, .ptr 13 0, .ptr 14 0, .mp 15, .mp 16, .mp 17, .int .u64 (.ofNat last)]) ::
  (10, .cells 161 [.ptr 9 0, .bool false, .any, .un .i64]) ::
  (11, .cells 105 [.int .i64 (.ofNat 0), .int .u64 (.ofNat 0), .bool false, .any, .any, .any, .any, .any, .any, .any]) ::
  (13, .cells 203 [.sg 18 0 1 1, .sg 19 0 1 1, .int .u64 (.ofNat 2)]) ::
  (15, .map [(.int .u64 (.ofNat 1), .ptr 20 0)]) ::
  (16, .map [(.int .u64 (.ofNat 2), .ptr 21 0)]) ::
  (17, .map []) ::
  (18, .grow 204 1 [.ptr 22 0]) ::
  (19, .grow 206 1 [.ptr 23 0]) ::
  (21, .cells 215 [.ptr 24 0, .int .i64 (.ofNat last)]) ::
  (22, .cells 284 [.int .u64 (.ofNat 1), .str [116], .sym .u64 0, .int .u64 (.ofNat 0), .sg 25 0 2 2]) ::
  (23, .cells 210 [.int .u64 (.ofNat 2), .str [105], .sym .u64 1, .int .u64 (.ofNat 0), .int .u64 (.ofNat 1), .int .i64 (.ofNat 1)]) :: rest
noncomputable def colsS : O := .grow 235 2 [.str [97], .int .u8 (.ofNat 1), .str [98], .int .u8 (.ofNat 1)]
/-- Objects, the next name, the model. -/
structure St where
  hl : List (Nat × O)
  nx : Nat
  m : MM
noncomputable def mmS (left cc : Nat) (pgs : List PgM) (ky : List (Nat × V)) : MM :=
  nq cc ⟨⟨14, left, 20, pgs⟩, ⟨12, 1, false, 0, 0, 0, [1, 0], []⟩, [], [], ky, 2, [], []⟩
    (nq (cc - 1) ⟨⟨14, left, 20, pgs⟩, ⟨12, 1, false, 0, 0, 0, [1, 0], []⟩, [], [], ky, 3, [(2, 1000)], []⟩
      ⟨⟨14, left, 20, pgs⟩, ⟨12, 1, false, 0, 0, 0, [1, 0], []⟩, [], [], ky, 4, [(2, 1000), (3, 1001)], [(3, .sym .i64 2, .int .i64 (.ofNat 1))]⟩)
/-- So many rows; pages that are left; what they say; their places; the tree's leaves (lit: its root is as Insert has made it). -/
noncomputable def stS (last left cc : Nat) (lit : Bool) (pages : List (List Nat)) (l1 l2 : List (Nat × Nat)) : Option St :=
  ob (pagesS cc pages) fun pgs => match l1, l2 with
  | [], _ => some ⟨baseS last [(24, .cells 290 [.nils, .nils]), (25, colsS)], 26, mmS left cc pgs []⟩
  | l1, [] => ob (entsS l1 27) fun es => ob (kysS cc pages l1 27) fun ky => fN (llen l1) fun n => fN (27 + n) fun nx =>
    some ⟨baseS last [(24, .cells 290 [.sg 26 0 3 n, .nils]), (25, colsS), (26, .grow 145 3 es)], nx, mmS left cc pgs ky⟩
  | (p1, q1) :: t1, (p2, q2) :: t2 => fN (llen t1) fun n1 => fN (llen t2) fun n2 => fN (34 + n1) fun k2 => fN (k2 + n2) fun nx => fN (n1 + 1) fun m1 => fN (n2 + 1) fun m2 =>
    ob (entsS t1 34) fun e1 => ob (entsS t2 k2) fun e2 => ob (kysS cc pages [(p1, q1), (p2, q2)] 28) fun y0 => ob (kysS cc pages t1 34) fun y1 => ob (kysS cc pages t2 k2) fun y2 => ob (lapp y1 y2) fun y12 => ob (lapp y0 y12) fun ky =>
    some ⟨baseS last (
      (24, bq lit (.cells 290 [.sg 26 0 3 2, .sg 27 0 1 2]) (.cells 290 [.sl 26 0 2 2, .sl 27 0 2 2])) :: (25, colsS) ::
      (26, bq lit (.grow 145 3 [.bs 28 9, .int .i64 (.ofNat p1), .int .i64 (.ofNat q1), .bs 29 9, .int .i64 (.ofNat p2), .int .i64 (.ofNat q2)])
                  (.cells 145 [.bs 28 9, .int .i64 (.ofNat p1), .int .i64 (.ofNat q1), .bs 29 9, .int .i64 (.ofNat p2), .int .i64 (.ofNat q2)])) ::
      (27, bq lit (.grow 213 1 [.ptr 30 0, .ptr 31 0]) (.cells 213 [.ptr 30 0, .ptr 31 0])) ::
      (30, .cells 290 [.sg 32 0 3 m1, .nils]) :: (31, .cells 290 [.sg 33 0 3 m2, .nils]) ::
      (32, .grow 145 3 (.bs 28 9 :: .int .i64 (.ofNat p1) :: .int .i64 (.ofNat q1) :: e1)) ::
      (33, .grow 145 3 (.bs 29 9 :: .int .i64 (.ofNat p2) :: .int .i64 (.ofNat q2) :: e2)) :: []), nx, mmS left cc pgs ky⟩

/-! ### which elder name is which -/
abbrev RS := List (Nat × Nat) × List (Nat × V)
noncomputable def nmV (v : V) : Option Nat := match v with
  | .ptr i _ => some i
  | .sl i _ _ _ => some i
  | .sg i _ _ _ => some i
  | .mp i => some i
  | .bs i _ => some i
  | _ => none
noncomputable def bindN (a b : V) (r : RS) : Option RS := match r with
  | (ρ, σ) => match a with
    | .sym _ s => (lkp s σ).rec (some (ρ, (s, b) :: σ)) (fun _ => some (ρ, σ))
    | a => (nmV a).rec (some (ρ, σ)) (fun i => bq (Nat.blt i 8) ((lkp i ρ).rec (ob (nmV b) fun j => some ((i, j) :: ρ, σ)) (fun _ => some (ρ, σ))) (some (ρ, σ)))
noncomputable def bindL (l : List V) : List V → RS → Option RS := l.rec (fun _ r => some r) (fun x _ ih m r => m.rec none (fun y m _ => ob (bindN x y r) fun r => ih m r))
noncomputable def cellsO (o : O) : List V := match o with
  | .cells _ l => l
  | .grow _ _ l => l
  | .map l => l.rec [] (fun x _ ih => x.1 :: x.2 :: ih)
  | _ => []
noncomputable def bindO (H : T O) (l : List (Nat × O)) : RS → Option RS := l.rec (fun r => some r) (fun x _ ih r => bq (Nat.blt x.1 8) (match r with
    | (ρ, σ) => ob (lkp x.1 ρ) fun j => ob (hget H j) fun o => ob (bindL (cellsO x.2) (cellsO o) (ρ, σ)) fun r => ih r) (ih r))
noncomputable def bindS (a b : Option RV) (r : RS) : Option RS := a.rec (some r) (fun x => b.rec none (fun y => match x, y with | ⟨_, _, _, vs⟩, ⟨_, _, _, vs'⟩ => bindL vs vs' r))
noncomputable def bindP (l : PgM) : PgM → RS → Option RS := l.rec (fun _ r => some r) (fun x _ ih m r => m.rec none (fun y m _ => ob (bindS x y r) fun r => ih m r))
noncomputable def bindPs (l : List PgM) : List PgM → RS → Option RS := l.rec (fun _ r => some r) (fun x _ ih m r => m.rec none (fun y m _ => ob (bindP x y r) fun r => ih m r))
noncomputable def lst {α : Type} (l : List (Nat × α)) (n : Nat) : Nat → Option (List α) := n.rec (fun _ => some []) (fun _ ih id => ob (lkp id l) fun j => fN (id + 1) fun id' => ob (ih id') fun r => some (j :: r))
noncomputable def bindA (root : Nat) (y : St) (s : SM) : Option (List Nat × List V) := match y, s with
  | ⟨hl, nx, m2⟩, ⟨H, _, m⟩ => match m2, m with
    | ⟨⟨_, _, _, pgs⟩, _, _, _, _, ns, _, _⟩, ⟨⟨_, _, _, pgs'⟩, _, _, _, _, _, _, _⟩ => ob (bindO H hl ([(8, root)], [])) fun r => ob (bindPs pgs pgs' r) fun r => match r with
      | (ρ, σ) => ob (lst ρ (nx - 8) 8) fun ρ => ob (lst σ ns 0) fun σ => some (ρ, σ)

/-! ### rounds -/
/-- Is x told to be symbol 2 and one? -/
noncomputable def oneMore (q : Nat) (sm : List (Nat × V × V)) : Bool := sm.rec false fun x _ ih => match x with
  | (p, .sym _ u, .int _ (.ofNat n)) => bq (Nat.beq p q) ih (bq (Nat.beq u 2) ih (Nat.beq n 1))
  | _ => ih
/-- Symbols: 2 is what was 2, and d more; 3 is one more than 2. -/
noncomputable def symB (d : Nat) (σ : List V) (sm : List (Nat × V × V)) : Bool := nq d
  (an ((lget 2 σ).rec false fun u => match u with | .sym _ q => Nat.beq q 2 | _ => false) ((lget 3 σ).rec true fun u => match u with | .sym _ q => oneMore q sm | _ => false))
  (an ((lget 2 σ).rec false fun u => match u with | .sym _ q => oneMore q sm | _ => false) ((lget 3 σ).rec true fun _ => false))
noncomputable def smS (s : SM) : List (Nat × V × V) := match s with | ⟨_, _, ⟨_, _, _, _, _, _, _, sm⟩⟩ => sm
/-- The state s is what y tells. -/
noncomputable def isSt (root : Nat) (y : St) (s : SM) (f : List V → Bool) : Bool := (bindA root y s).rec false fun r => match r, y, s with
  | (ρ, σ), ⟨hl, nx, m2⟩, ⟨H, _, m⟩ => an ((lget 0 ρ).rec false (fun x => Nat.beq x root)) (an (mHs ρ σ H hl) (an (onceB ρ) (an (mM ρ σ m2 m) (an (Nat.beq (8 + llen ρ) nx) (an (Nat.beq (llen σ) (match m2 with | ⟨_, _, _, _, _, ns, _, _⟩ => ns)) (f σ))))))
noncomputable def okA (v : V) : Bool := match v with
  | .tup [.agg [.int k (.ofNat c), x, y, z], .int k' (.ofNat e)] => an (Nat.beq (kno k) 3) (an (Nat.beq (kno k') 3) (an (Nat.beq c 0) (an (Nat.beq e 0) (an (one x) (an (one y) (one z))))))
  | _ => false
noncomputable def kindV (v : V) : Option Nat := match v with
  | .agg [.int k (.ofNat c), x, y, z] => ck (Nat.beq (kno k) 3) (ck (one x) (ck (one y) (ck (one z) (some c))))
  | _ => none
/-- At most so many steps of the broom, till the end. -/
noncomputable def swps (n : Nat) : SM → Option SM := n.rec (fun _ => none) (fun _n ih s => ob (cn 100 18 [.ptr 8 0] s) fun r => ob (kindV r.1) fun k => bq (Nat.beq k 4) (ih r.2) (some r.2))
noncomputable def atS (x : St) : Option SM := match x with | ⟨hl, nx, m⟩ => ob (mkH hl) fun H => some ⟨H, nx, m⟩
end X
end Go.Proofs.YtnkjnclpakfgnaaGreatDoor
