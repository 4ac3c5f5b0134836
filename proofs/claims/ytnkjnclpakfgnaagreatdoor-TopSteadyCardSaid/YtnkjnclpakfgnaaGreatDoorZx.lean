/- What the listed variables are as the call begins: the tables of utf8 and the words' table, where they lie. No conditions. -/
import Derived.Test.YtnkjnclpakfgnaaGreatDoorZd
import Derived.Test.YtnkjnclpakfgnaaGreatDoorRows
import Derived.Lib.LaidU8
import Derived.LaidMore
import Derived.Lay
namespace Go.Proofs.YtnkjnclpakfgnaaGreatDoor
namespace X
open Go.RowKit Go.Lib
set_option maxRecDepth 100000

theorem gl_size : Tryz.prog.globals.size = 5 := by kernel_rfl
theorem gl1 : (((begin Tryz.prog (fun _ _ => 0) default).world.heap[1]?).bind Obj.row?).map (fun x => (x.1.size, x.2)) = some (256, 488) := by kernel_rfl
theorem gl2 : (((begin Tryz.prog (fun _ _ => 0) default).world.heap[2]?).bind Obj.row?).map (fun x => (x.1.size, x.2)) = some (32, 491) := by kernel_rfl
theorem gl3 : (((begin Tryz.prog (fun _ _ => 0) default).world.heap[3]?).bind Obj.row?).map (fun x => (x.1.size, x.2)) = some (39, 568) := by kernel_rfl
theorem shape_at {W : World} (h : W.ShapedOpen Tryz.prog) {g n t : Nat} (hg : g < 5) (e : (((begin Tryz.prog (fun _ _ => 0) default).world.heap[g]?).bind Obj.row?).map (fun x => (x.1.size, x.2)) = some (n, t)) :
    ∃ cs, W.heap[g]? = some (.cells cs t) ∧ cs.size = n := by
  obtain ⟨⟨z, t'⟩, e1, e2⟩ := Option.map_eq_some_iff.1 e
  cases e2
  obtain ⟨cs, a, b, _⟩ := h.1 g z _ (by rw [gl_size]; exact hg) e1
  exact ⟨cs, a, b⟩
/-- The names of the listed variables. -/
def nmL (i : Nat) : String := (Rows.topSteadyRow.laid.map (fun x => x.1)).getD i default
theorem nm1 : Tryz.prog.globalNamed (nmL 3) = some 1 := by kernel_rfl
theorem nm2 : Tryz.prog.globalNamed (nmL 0) = some 2 := by kernel_rfl
theorem nm3 : Tryz.prog.globalNamed (nmL 1) = some 3 := by kernel_rfl
theorem ty1 : (Tryz.prog.globals[1]?).map (·.type) = some 488 := by kernel_rfl
theorem ty2 : (Tryz.prog.globals[2]?).map (·.type) = some 491 := by kernel_rfl
theorem ty3 : (Tryz.prog.globals[3]?).map (·.type) = some 568 := by kernel_rfl
theorem un1 : Tryz.prog.underlying 488 = some (.array 256 5) := by kernel_rfl
theorem un2 : Tryz.prog.underlying 491 = some (.array 16 490) := by kernel_rfl
theorem un3 : Tryz.prog.underlying 568 = some (.array 39 9) := by kernel_rfl
theorem un5 : Tryz.prog.underlying 5 = some (.int .u8) := by kernel_rfl
theorem un9 : Tryz.prog.underlying 9 = some .string := by kernel_rfl
theorem ce5 : Tryz.prog.cellsOf 5 = 1 := by kernel_rfl
theorem ce9 : Tryz.prog.cellsOf 9 = 1 := by kernel_rfl
theorem ce488 : Tryz.prog.cellsOf 488 = 256 := by kernel_rfl
theorem ce490 : Tryz.prog.cellsOf 490 = 2 := by kernel_rfl
theorem first_data : Rows.laid_unicode_utf8_first = firstData := by kernel_rfl
theorem accept_data : (Rows.laid_unicode_utf8_acceptRanges : DataW Unit) = acceptData := by kernel_rfl
/-- A word's datum. -/
def litS (v : V) : DataW Unit := match v with | .str l => .lit (.string (l.map UInt8.ofNat)) | _ => .nil
theorem words_data : (Rows.laid_lapidary_parse_reserved : DataW Unit) = .agg (strs.map litS) := by kernel_rfl
theorem bytes_lt : allB (fun v => match v with | .str l => allB (fun n => Nat.blt n 256) l | _ => false) strs = true := by kernel_rfl

theorem un490 : ∃ fs : Array Field, Tryz.prog.underlying 490 = some (.struct fs) ∧ fs.size = 2 ∧ ∀ (i : Nat) (f : Field), fs[i]? = some f → Tryz.prog.underlying f.type = some (.int .u8) ∧ f.offset = i ∧ Tryz.prog.cellsOf f.type = 1 := by
  have e : (Tryz.prog.underlying 490).map (fun d => match d with | .struct fs => fs.toList.map (fun f => (f.type, f.offset)) | _ => []) = some [(5, 0), (5, 1)] := by kernel_rfl
  obtain ⟨d, h1, h2⟩ := Option.map_eq_some_iff.1 e
  cases d <;> first | (cases h2; done) | skip
  rename_i fs
  have hl : fs.toList.map (fun f => (f.type, f.offset)) = [(5, 0), (5, 1)] := h2
  refine ⟨fs, h1, by have := congrArg List.length hl; simpa using this, fun i f hf => ?_⟩
  have hm : (fs.toList.map (fun f => (f.type, f.offset)))[i]? = some (f.type, f.offset) := by
    rw [List.getElem?_map, Array.getElem?_toList, hf]; rfl
  rw [hl] at hm
  match i, hm with
  | 0, hm => simp at hm; rw [← hm.1]; exact ⟨un5, hm.2.symm, ce5⟩
  | 1, hm => simp at hm; rw [← hm.1]; exact ⟨un5, hm.2.symm, ce5⟩
  | i + 2, hm => simp at hm

theorem tabs_read {W : World} (h3 : VarReads Tryz.prog W (nmL 3) firstData) (h4 : VarReads Tryz.prog W (nmL 0) acceptData) : Lib.Utf8Tabs 1 2 W := by
  refine ⟨fun c hc => ?_, fun i hi => ?_⟩
  · obtain ⟨g, t, cs, fuel, p, hg, hty, hvar, hd⟩ := h3
    obtain rfl := Option.some.inj (nm1.symm.trans hg)
    obtain rfl := Option.some.inj (ty1.symm.trans hty)
    have hcs := cells_of_tab un1 un5 ce5 ce488 hd
    rw [World.var?_cell hg hvar c, ← Array.getElem?_toList, hcs]
    simp [firstTab, hc]
  · obtain ⟨g, t, cs, fuel, p, hg, hty, hvar, hd⟩ := h4
    obtain rfl := Option.some.inj (nm2.symm.trans hg)
    obtain rfl := Option.some.inj (ty2.symm.trans hty)
    obtain ⟨fuel', d, q, hdi, he⟩ := array_elem un2 hd i hi
    simp only [List.getElem?_map, List.getElem?_range hi, Option.map_some, Option.some.injEq] at hdi
    subst hdi
    obtain ⟨fs, u1, u2, u3⟩ := un490
    rw [ce490] at he
    have hcs := ints_of_struct u1 u3 (by rw [ce490, u2]) he
    have e0 := congrArg (·[0]?) hcs
    have e1 := congrArg (·[1]?) hcs
    simp only [List.getElem?_take, List.getElem?_drop] at e0 e1
    constructor
    · rw [World.var?_cell hg hvar (2 * i), ← Array.getElem?_toList]
      simpa [Nat.mul_comm] using e0
    · rw [World.var?_cell hg hvar (2 * i + 1), ← Array.getElem?_toList]
      simpa [Nat.mul_comm] using e1
theorem words_read {W : World} (h : VarReads Tryz.prog W (nmL 1) (.agg (strs.map litS))) (hs : ∃ cs, W.heap[3]? = some (.cells cs 568) ∧ cs.size = 39) : W3 W := by
  obtain ⟨L, hL, hz⟩ := hs
  obtain ⟨g, t, cs, fuel, p, hg, hty, hvar, hd⟩ := h
  obtain rfl := Option.some.inj (nm3.symm.trans hg)
  obtain rfl := Option.some.inj (ty3.symm.trans hty)
  have hcs : cs = L := by
    unfold World.var? at hvar
    rw [nm3] at hvar
    simp only [Option.bind_some, hL, Option.some.injEq] at hvar
    exact hvar.symm
  subst hcs
  refine ⟨cs, hL, fun E => ⟨by simp [hz]; rfl, fun i v W' a b => ?_⟩⟩
  have hi : i < 39 := by
    have := (List.getElem?_eq_some_iff.1 b).1
    simpa [hz] using this
  obtain ⟨fuel', d, q, hdi, he⟩ := array_elem un3 hd i hi
  rw [List.getElem?_map, a, Option.map_some, Option.some.injEq] at hdi
  subst hdi
  rw [ce9, Nat.mul_one] at he
  obtain ⟨S, e1, e2, _⟩ := DataW.trod_string un9 he
  have hb : cs.toList[i]? = some (.string S) := by
    have := congrArg (·[0]?) e1
    simpa [List.getElem?_take, List.getElem?_drop] using this
  rw [hb] at b
  cases b
  have hv := allB_ok bytes_lt v (List.mem_of_getElem? a)
  cases v <;> first | (cases hv; done) | skip
  rename_i l
  refine .str ?_
  have e3 : l.map UInt8.ofNat = S.data.toList := by
    have := congrArg Prod.fst e2
    simpa [litS] using this
  unfold bytesN
  rw [← e3, List.map_map]
  conv => rhs; rw [← List.map_id l]
  apply List.map_congr_left
  intro n hn
  have := allB_ok hv n hn
  have hlt : n < 256 := Nat.le_of_ble_eq_true this
  simp [Nat.mod_eq_of_lt hlt]
theorem laid_world {W : World} (h : laidMetH Tryz.prog Rows.topSteadyRow.laid W) (hs : W.ShapedOpen Tryz.prog) : U8 W ∧ W3 W := by
  rw [MakeChecks.laidMetH_plain _ _ _ (by kernel_rfl)] at h
  have r2 : VarReads Tryz.prog W (nmL 0) acceptData := laidMet.reads h (by rw [← accept_data]; exact .head _)
  have r3 : VarReads Tryz.prog W (nmL 1) (.agg (strs.map litS)) := laidMet.reads h (by rw [← words_data]; exact .tail _ (.head _))
  have r1 : VarReads Tryz.prog W (nmL 3) firstData := laidMet.reads h (by rw [← first_data]; exact .tail _ (.tail _ (.tail _ (.head _))))
  exact ⟨⟨tabs_read r1 r2, shape_at hs (by decide) gl1, shape_at hs (by decide) gl2⟩, words_read r3 (shape_at hs (by decide) gl3)⟩
end X
end Go.Proofs.YtnkjnclpakfgnaaGreatDoor
