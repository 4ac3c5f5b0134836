/- States of the store at rest, by number. No conditions. -/
import Derived.Test.YtnkjnclpakfgnaaGreatDoorMc7
import Derived.Test.YtnkjnclpakfgnaaGreatDoorZe
namespace Go.Proofs.YtnkjnclpakfgnaaGreatDoor
namespace X
open Go.RowKit
/-- What a state's symbols are, however it is told. -/
theorem fix_stS {last left c : Nat} {lit : Bool} {pages : List (List Nat)} {l1 l2 : List (Nat × Nat)} : ∀ y, stS last left (c + 1) lit pages l1 l2 = some y → Fix y.m := fun y h => by
  obtain ⟨_, _, _, e, _⟩ := stS_m h
  rw [e]; exact fix_mmS
/-- What is told of symbols ahead of the first round. -/
def Fix1 (m : MM) : Prop := m.t.fuel = 1 ∧ m.bd = [(2, 1000)] ∧ m.sm = []
theorem fix_st1 {last left : Nat} {lit : Bool} {pages : List (List Nat)} {l1 l2 : List (Nat × Nat)} : ∀ y, stS last left 1 lit pages l1 l2 = some y → Fix1 y.m := fun y h => by
  obtain ⟨_, _, _, e, _⟩ := stS_m h
  rw [e]; exact ⟨rfl, rfl, rfl⟩
noncomputable def ts0 : Option St := stS 1 1 1 false [[1]] [(0, 0)] []
theorem fx0 : ∀ y, ts0 = some y → Fix y.m := fix_stS
theorem fy0 : ∀ y, ts0 = some y → Fix1 y.m := fix_st1
noncomputable def ts1 : Option St := stS 1 1 1 false [[0, 1]] [(0, 1)] []
theorem fx1 : ∀ y, ts1 = some y → Fix y.m := fix_stS
noncomputable def ts2 : Option St := stS 2 2 1 false [[1, 2]] [(0, 0), (0, 1)] []
theorem fx2 : ∀ y, ts2 = some y → Fix y.m := fix_stS
theorem fy2 : ∀ y, ts2 = some y → Fix1 y.m := fix_st1
noncomputable def ts3 : Option St := stS 2 2 1 false [[0, 0, 1, 2]] [(0, 2), (0, 3)] []
theorem fx3 : ∀ y, ts3 = some y → Fix y.m := fix_stS
noncomputable def ts4 : Option St := stS 2 2 2 false [[0, 2, 1]] [(0, 1), (0, 2)] []
theorem fx4 : ∀ y, ts4 = some y → Fix y.m := fix_stS
noncomputable def ts5 : Option St := stS 2 2 1 false [[2, 0, 1]] [(0, 0), (0, 2)] []
theorem fx5 : ∀ y, ts5 = some y → Fix y.m := fix_stS
noncomputable def ts6 : Option St := stS 2 2 2 false [[2, 1]] [(0, 0), (0, 1)] []
theorem fx6 : ∀ y, ts6 = some y → Fix y.m := fix_stS
noncomputable def ts7 : Option St := stS 2 2 1 false [[0, 1, 2]] [(0, 1), (0, 2)] []
theorem fx7 : ∀ y, ts7 = some y → Fix y.m := fix_stS
noncomputable def ts8 : Option St := stS 2 2 2 false [[1, 0, 2]] [(0, 2), (0, 0)] []
theorem fx8 : ∀ y, ts8 = some y → Fix y.m := fix_stS
noncomputable def ts9 : Option St := stS 3 2 1 false [[1, 2, 3]] [(0, 0), (0, 1), (0, 2)] []
theorem fx9 : ∀ y, ts9 = some y → Fix y.m := fix_stS
theorem fy9 : ∀ y, ts9 = some y → Fix1 y.m := fix_st1
noncomputable def ts10 : Option St := stS 3 2 1 false [[0, 0, 0, 1, 2, 3]] [(0, 3), (0, 4), (0, 5)] []
theorem fx10 : ∀ y, ts10 = some y → Fix y.m := fix_stS
noncomputable def ts11 : Option St := stS 3 2 2 false [[0, 2, 3, 1]] [(0, 1), (0, 2), (0, 3)] []
theorem fx11 : ∀ y, ts11 = some y → Fix y.m := fix_stS
noncomputable def ts12 : Option St := stS 3 2 3 false [[2, 0, 3, 1]] [(0, 2), (0, 0), (0, 3)] []
theorem fx12 : ∀ y, ts12 = some y → Fix y.m := fix_stS
noncomputable def ts13 : Option St := stS 3 2 1 false [[2, 3, 0, 1]] [(0, 0), (0, 1), (0, 3)] []
theorem fx13 : ∀ y, ts13 = some y → Fix y.m := fix_stS
noncomputable def ts14 : Option St := stS 3 2 2 false [[2, 3, 1]] [(0, 0), (0, 1), (0, 2)] []
theorem fx14 : ∀ y, ts14 = some y → Fix y.m := fix_stS
noncomputable def ts15 : Option St := stS 3 2 3 false [[0, 3, 1, 2]] [(0, 1), (0, 2), (0, 3)] []
theorem fx15 : ∀ y, ts15 = some y → Fix y.m := fix_stS
noncomputable def ts16 : Option St := stS 3 2 1 false [[3, 0, 1, 2]] [(0, 0), (0, 2), (0, 3)] []
theorem fx16 : ∀ y, ts16 = some y → Fix y.m := fix_stS
noncomputable def ts17 : Option St := stS 3 2 2 false [[3, 1, 0, 2]] [(0, 0), (0, 3), (0, 1)] []
theorem fx17 : ∀ y, ts17 = some y → Fix y.m := fix_stS
noncomputable def ts18 : Option St := stS 3 2 3 false [[3, 1, 2]] [(0, 0), (0, 1), (0, 2)] []
theorem fx18 : ∀ y, ts18 = some y → Fix y.m := fix_stS
noncomputable def ts19 : Option St := stS 3 2 1 false [[0, 1, 2, 3]] [(0, 1), (0, 2), (0, 3)] []
theorem fx19 : ∀ y, ts19 = some y → Fix y.m := fix_stS
noncomputable def ts20 : Option St := stS 3 2 2 false [[1, 0, 2, 3]] [(0, 2), (0, 3), (0, 0)] []
theorem fx20 : ∀ y, ts20 = some y → Fix y.m := fix_stS
noncomputable def ts21 : Option St := stS 3 2 3 false [[1, 2, 0, 3]] [(0, 3), (0, 0), (0, 1)] []
theorem fx21 : ∀ y, ts21 = some y → Fix y.m := fix_stS
noncomputable def ts22 : Option St := stS 4 2 1 false [[1, 2, 3, 4]] [(0, 0), (0, 1), (0, 2), (0, 3)] []
theorem fx22 : ∀ y, ts22 = some y → Fix y.m := fix_stS
theorem fy22 : ∀ y, ts22 = some y → Fix1 y.m := fix_st1
noncomputable def ts23 : Option St := stS 4 2 1 false [[0, 0, 0, 0, 1, 2, 3, 4]] [(0, 4), (0, 5), (0, 6), (0, 7)] []
theorem fx23 : ∀ y, ts23 = some y → Fix y.m := fix_stS
noncomputable def ts24 : Option St := stS 4 2 2 false [[0, 2, 3, 4, 1]] [(0, 1), (0, 2), (0, 3), (0, 4)] []
theorem fx24 : ∀ y, ts24 = some y → Fix y.m := fix_stS
noncomputable def ts25 : Option St := stS 4 2 3 false [[2, 0, 3, 4, 1]] [(0, 2), (0, 3), (0, 0), (0, 4)] []
theorem fx25 : ∀ y, ts25 = some y → Fix y.m := fix_stS
noncomputable def ts26 : Option St := stS 4 2 4 false [[2, 3, 0, 4, 1]] [(0, 3), (0, 0), (0, 1), (0, 4)] []
theorem fx26 : ∀ y, ts26 = some y → Fix y.m := fix_stS
noncomputable def ts27 : Option St := stS 4 2 1 false [[2, 3, 4, 0, 1]] [(0, 0), (0, 1), (0, 2), (0, 4)] []
theorem fx27 : ∀ y, ts27 = some y → Fix y.m := fix_stS
noncomputable def ts28 : Option St := stS 4 2 2 false [[2, 3, 4, 1]] [(0, 0), (0, 1), (0, 2), (0, 3)] []
theorem fx28 : ∀ y, ts28 = some y → Fix y.m := fix_stS
noncomputable def ts29 : Option St := stS 4 2 3 false [[0, 3, 4, 1, 2]] [(0, 1), (0, 2), (0, 3), (0, 4)] []
theorem fx29 : ∀ y, ts29 = some y → Fix y.m := fix_stS
noncomputable def ts30 : Option St := stS 4 2 4 false [[3, 0, 4, 1, 2]] [(0, 2), (0, 0), (0, 3), (0, 4)] []
theorem fx30 : ∀ y, ts30 = some y → Fix y.m := fix_stS
noncomputable def ts31 : Option St := stS 4 2 1 false [[3, 4, 0, 1, 2]] [(0, 0), (0, 1), (0, 3), (0, 4)] []
theorem fx31 : ∀ y, ts31 = some y → Fix y.m := fix_stS
noncomputable def ts32 : Option St := stS 4 2 2 false [[3, 4, 1, 0, 2]] [(0, 0), (0, 1), (0, 4), (0, 2)] []
theorem fx32 : ∀ y, ts32 = some y → Fix y.m := fix_stS
noncomputable def ts33 : Option St := stS 4 2 3 false [[3, 4, 1, 2]] [(0, 0), (0, 1), (0, 2), (0, 3)] []
theorem fx33 : ∀ y, ts33 = some y → Fix y.m := fix_stS
noncomputable def ts34 : Option St := stS 4 2 4 false [[0, 4, 1, 2, 3]] [(0, 1), (0, 2), (0, 3), (0, 4)] []
theorem fx34 : ∀ y, ts34 = some y → Fix y.m := fix_stS
noncomputable def ts35 : Option St := stS 4 2 1 false [[4, 0, 1, 2, 3]] [(0, 0), (0, 2), (0, 3), (0, 4)] []
theorem fx35 : ∀ y, ts35 = some y → Fix y.m := fix_stS
noncomputable def ts36 : Option St := stS 4 2 2 false [[4, 1, 0, 2, 3]] [(0, 0), (0, 3), (0, 4), (0, 1)] []
theorem fx36 : ∀ y, ts36 = some y → Fix y.m := fix_stS
noncomputable def ts37 : Option St := stS 4 2 3 false [[4, 1, 2, 0, 3]] [(0, 0), (0, 4), (0, 1), (0, 2)] []
theorem fx37 : ∀ y, ts37 = some y → Fix y.m := fix_stS
noncomputable def ts38 : Option St := stS 4 2 4 false [[4, 1, 2, 3]] [(0, 0), (0, 1), (0, 2), (0, 3)] []
theorem fx38 : ∀ y, ts38 = some y → Fix y.m := fix_stS
noncomputable def ts39 : Option St := stS 4 2 1 false [[0, 1, 2, 3, 4]] [(0, 1), (0, 2), (0, 3), (0, 4)] []
theorem fx39 : ∀ y, ts39 = some y → Fix y.m := fix_stS
noncomputable def ts40 : Option St := stS 4 2 2 false [[1, 0, 2, 3, 4]] [(0, 2), (0, 3), (0, 4), (0, 0)] []
theorem fx40 : ∀ y, ts40 = some y → Fix y.m := fix_stS
noncomputable def ts41 : Option St := stS 4 2 3 false [[1, 2, 0, 3, 4]] [(0, 3), (0, 4), (0, 0), (0, 1)] []
theorem fx41 : ∀ y, ts41 = some y → Fix y.m := fix_stS
noncomputable def ts42 : Option St := stS 4 2 4 false [[1, 2, 3, 0, 4]] [(0, 4), (0, 0), (0, 1), (0, 2)] []
theorem fx42 : ∀ y, ts42 = some y → Fix y.m := fix_stS
noncomputable def ts43 : Option St := stS 5 2 1 false [[1, 2, 3, 4, 5]] [(0, 0), (0, 1), (0, 2), (0, 3), (0, 4)] []
theorem fx43 : ∀ y, ts43 = some y → Fix y.m := fix_stS
theorem fy43 : ∀ y, ts43 = some y → Fix1 y.m := fix_st1
noncomputable def ts44 : Option St := stS 5 1 1 false [[0, 0, 0, 0, 0, 1, 2, 3, 4], [5]] [(0, 5), (0, 6), (0, 7), (0, 8), (1, 0)] []
theorem fx44 : ∀ y, ts44 = some y → Fix y.m := fix_stS
noncomputable def ts45 : Option St := stS 5 1 1 false [[1, 2, 3, 4, 5], []] [(0, 0), (0, 1), (0, 2), (0, 3), (0, 4)] []
theorem fx45 : ∀ y, ts45 = some y → Fix y.m := fix_stS
noncomputable def ts46 : Option St := stS 5 2 2 false [[0, 2, 3, 4, 5, 1]] [(0, 1), (0, 2), (0, 3), (0, 4), (0, 5)] []
theorem fx46 : ∀ y, ts46 = some y → Fix y.m := fix_stS
noncomputable def ts47 : Option St := stS 5 2 3 false [[2, 0, 3, 4, 5, 1]] [(0, 2), (0, 3), (0, 4), (0, 0), (0, 5)] []
theorem fx47 : ∀ y, ts47 = some y → Fix y.m := fix_stS
noncomputable def ts48 : Option St := stS 5 2 4 false [[2, 3, 0, 4, 5, 1]] [(0, 3), (0, 4), (0, 0), (0, 1), (0, 5)] []
theorem fx48 : ∀ y, ts48 = some y → Fix y.m := fix_stS
noncomputable def ts49 : Option St := stS 5 2 5 false [[2, 3, 4, 0, 5, 1]] [(0, 4), (0, 0), (0, 1), (0, 2), (0, 5)] []
theorem fx49 : ∀ y, ts49 = some y → Fix y.m := fix_stS
noncomputable def ts50 : Option St := stS 5 2 1 false [[2, 3, 4, 5, 0, 1]] [(0, 0), (0, 1), (0, 2), (0, 3), (0, 5)] []
theorem fx50 : ∀ y, ts50 = some y → Fix y.m := fix_stS
noncomputable def ts51 : Option St := stS 5 2 2 false [[2, 3, 4, 5, 1]] [(0, 0), (0, 1), (0, 2), (0, 3), (0, 4)] []
theorem fx51 : ∀ y, ts51 = some y → Fix y.m := fix_stS
noncomputable def ts52 : Option St := stS 5 2 3 false [[0, 3, 4, 5, 1, 2]] [(0, 1), (0, 2), (0, 3), (0, 4), (0, 5)] []
theorem fx52 : ∀ y, ts52 = some y → Fix y.m := fix_stS
noncomputable def ts53 : Option St := stS 5 2 4 false [[3, 0, 4, 5, 1, 2]] [(0, 2), (0, 3), (0, 0), (0, 4), (0, 5)] []
theorem fx53 : ∀ y, ts53 = some y → Fix y.m := fix_stS
noncomputable def ts54 : Option St := stS 5 2 5 false [[3, 4, 0, 5, 1, 2]] [(0, 3), (0, 0), (0, 1), (0, 4), (0, 5)] []
theorem fx54 : ∀ y, ts54 = some y → Fix y.m := fix_stS
noncomputable def ts55 : Option St := stS 5 2 1 false [[3, 4, 5, 0, 1, 2]] [(0, 0), (0, 1), (0, 2), (0, 4), (0, 5)] []
theorem fx55 : ∀ y, ts55 = some y → Fix y.m := fix_stS
noncomputable def ts56 : Option St := stS 5 2 2 false [[3, 4, 5, 1, 0, 2]] [(0, 0), (0, 1), (0, 2), (0, 5), (0, 3)] []
theorem fx56 : ∀ y, ts56 = some y → Fix y.m := fix_stS
noncomputable def ts57 : Option St := stS 5 2 3 false [[3, 4, 5, 1, 2]] [(0, 0), (0, 1), (0, 2), (0, 3), (0, 4)] []
theorem fx57 : ∀ y, ts57 = some y → Fix y.m := fix_stS
noncomputable def ts58 : Option St := stS 5 2 4 false [[0, 4, 5, 1, 2, 3]] [(0, 1), (0, 2), (0, 3), (0, 4), (0, 5)] []
theorem fx58 : ∀ y, ts58 = some y → Fix y.m := fix_stS
noncomputable def ts59 : Option St := stS 5 2 5 false [[4, 0, 5, 1, 2, 3]] [(0, 2), (0, 0), (0, 3), (0, 4), (0, 5)] []
theorem fx59 : ∀ y, ts59 = some y → Fix y.m := fix_stS
noncomputable def ts60 : Option St := stS 5 2 1 false [[4, 5, 0, 1, 2, 3]] [(0, 0), (0, 1), (0, 3), (0, 4), (0, 5)] []
theorem fx60 : ∀ y, ts60 = some y → Fix y.m := fix_stS
noncomputable def ts61 : Option St := stS 5 2 2 false [[4, 5, 1, 0, 2, 3]] [(0, 0), (0, 1), (0, 4), (0, 5), (0, 2)] []
theorem fx61 : ∀ y, ts61 = some y → Fix y.m := fix_stS
noncomputable def ts62 : Option St := stS 5 2 3 false [[4, 5, 1, 2, 0, 3]] [(0, 0), (0, 1), (0, 5), (0, 2), (0, 3)] []
theorem fx62 : ∀ y, ts62 = some y → Fix y.m := fix_stS
noncomputable def ts63 : Option St := stS 5 2 4 false [[4, 5, 1, 2, 3]] [(0, 0), (0, 1), (0, 2), (0, 3), (0, 4)] []
theorem fx63 : ∀ y, ts63 = some y → Fix y.m := fix_stS
noncomputable def ts64 : Option St := stS 5 2 5 false [[0, 5, 1, 2, 3, 4]] [(0, 1), (0, 2), (0, 3), (0, 4), (0, 5)] []
theorem fx64 : ∀ y, ts64 = some y → Fix y.m := fix_stS
noncomputable def ts65 : Option St := stS 5 2 1 false [[5, 0, 1, 2, 3, 4]] [(0, 0), (0, 2), (0, 3), (0, 4), (0, 5)] []
theorem fx65 : ∀ y, ts65 = some y → Fix y.m := fix_stS
noncomputable def ts66 : Option St := stS 5 2 2 false [[5, 1, 0, 2, 3, 4]] [(0, 0), (0, 3), (0, 4), (0, 5), (0, 1)] []
theorem fx66 : ∀ y, ts66 = some y → Fix y.m := fix_stS
noncomputable def ts67 : Option St := stS 5 2 3 false [[5, 1, 2, 0, 3, 4]] [(0, 0), (0, 4), (0, 5), (0, 1), (0, 2)] []
theorem fx67 : ∀ y, ts67 = some y → Fix y.m := fix_stS
noncomputable def ts68 : Option St := stS 5 2 4 false [[5, 1, 2, 3, 0, 4]] [(0, 0), (0, 5), (0, 1), (0, 2), (0, 3)] []
theorem fx68 : ∀ y, ts68 = some y → Fix y.m := fix_stS
noncomputable def ts69 : Option St := stS 5 2 5 false [[5, 1, 2, 3, 4]] [(0, 0), (0, 1), (0, 2), (0, 3), (0, 4)] []
theorem fx69 : ∀ y, ts69 = some y → Fix y.m := fix_stS
noncomputable def ts70 : Option St := stS 6 2 1 false [[1, 2, 3, 4, 5, 6]] [(0, 0), (0, 1), (0, 2), (0, 3), (0, 4), (0, 5)] []
theorem fx70 : ∀ y, ts70 = some y → Fix y.m := fix_stS
theorem fy70 : ∀ y, ts70 = some y → Fix1 y.m := fix_st1
noncomputable def ts71 : Option St := stS 6 1 1 false [[0, 0, 0, 0, 0, 0, 1, 2, 3], [4, 5, 6]] [(0, 6), (0, 7), (0, 8), (1, 0), (1, 1), (1, 2)] []
theorem fx71 : ∀ y, ts71 = some y → Fix y.m := fix_stS
noncomputable def ts72 : Option St := stS 6 1 1 false [[1, 2, 3, 4, 5, 6], []] [(0, 0), (0, 1), (0, 2), (0, 3), (0, 4), (0, 5)] []
theorem fx72 : ∀ y, ts72 = some y → Fix y.m := fix_stS
noncomputable def ts73 : Option St := stS 6 2 2 false [[0, 2, 3, 4, 5, 6, 1]] [(0, 1), (0, 2), (0, 3), (0, 4), (0, 5), (0, 6)] []
theorem fx73 : ∀ y, ts73 = some y → Fix y.m := fix_stS
noncomputable def ts74 : Option St := stS 6 2 3 false [[2, 0, 3, 4, 5, 6, 1]] [(0, 2), (0, 3), (0, 4), (0, 5), (0, 0), (0, 6)] []
theorem fx74 : ∀ y, ts74 = some y → Fix y.m := fix_stS
noncomputable def ts75 : Option St := stS 6 2 4 false [[2, 3, 0, 4, 5, 6, 1]] [(0, 3), (0, 4), (0, 5), (0, 0), (0, 1), (0, 6)] []
theorem fx75 : ∀ y, ts75 = some y → Fix y.m := fix_stS
noncomputable def ts76 : Option St := stS 6 2 5 false [[2, 3, 4, 0, 5, 6, 1]] [(0, 4), (0, 5), (0, 0), (0, 1), (0, 2), (0, 6)] []
theorem fx76 : ∀ y, ts76 = some y → Fix y.m := fix_stS
noncomputable def ts77 : Option St := stS 6 2 6 false [[2, 3, 4, 5, 0, 6, 1]] [(0, 5), (0, 0), (0, 1), (0, 2), (0, 3), (0, 6)] []
theorem fx77 : ∀ y, ts77 = some y → Fix y.m := fix_stS
noncomputable def ts78 : Option St := stS 6 2 1 false [[2, 3, 4, 5, 6, 0, 1]] [(0, 0), (0, 1), (0, 2), (0, 3), (0, 4), (0, 6)] []
theorem fx78 : ∀ y, ts78 = some y → Fix y.m := fix_stS
noncomputable def ts79 : Option St := stS 6 2 2 false [[2, 3, 4, 5, 6, 1]] [(0, 0), (0, 1), (0, 2), (0, 3), (0, 4), (0, 5)] []
theorem fx79 : ∀ y, ts79 = some y → Fix y.m := fix_stS
noncomputable def ts80 : Option St := stS 6 2 3 false [[0, 3, 4, 5, 6, 1, 2]] [(0, 1), (0, 2), (0, 3), (0, 4), (0, 5), (0, 6)] []
theorem fx80 : ∀ y, ts80 = some y → Fix y.m := fix_stS
noncomputable def ts81 : Option St := stS 6 2 4 false [[3, 0, 4, 5, 6, 1, 2]] [(0, 2), (0, 3), (0, 4), (0, 0), (0, 5), (0, 6)] []
theorem fx81 : ∀ y, ts81 = some y → Fix y.m := fix_stS
noncomputable def ts82 : Option St := stS 6 2 5 false [[3, 4, 0, 5, 6, 1, 2]] [(0, 3), (0, 4), (0, 0), (0, 1), (0, 5), (0, 6)] []
theorem fx82 : ∀ y, ts82 = some y → Fix y.m := fix_stS
noncomputable def ts83 : Option St := stS 6 2 6 false [[3, 4, 5, 0, 6, 1, 2]] [(0, 4), (0, 0), (0, 1), (0, 2), (0, 5), (0, 6)] []
theorem fx83 : ∀ y, ts83 = some y → Fix y.m := fix_stS
noncomputable def ts84 : Option St := stS 6 2 1 false [[3, 4, 5, 6, 0, 1, 2]] [(0, 0), (0, 1), (0, 2), (0, 3), (0, 5), (0, 6)] []
theorem fx84 : ∀ y, ts84 = some y → Fix y.m := fix_stS
noncomputable def ts85 : Option St := stS 6 2 2 false [[3, 4, 5, 6, 1, 0, 2]] [(0, 0), (0, 1), (0, 2), (0, 3), (0, 6), (0, 4)] []
theorem fx85 : ∀ y, ts85 = some y → Fix y.m := fix_stS
noncomputable def ts86 : Option St := stS 6 2 3 false [[3, 4, 5, 6, 1, 2]] [(0, 0), (0, 1), (0, 2), (0, 3), (0, 4), (0, 5)] []
theorem fx86 : ∀ y, ts86 = some y → Fix y.m := fix_stS
noncomputable def ts87 : Option St := stS 6 2 4 false [[0, 4, 5, 6, 1, 2, 3]] [(0, 1), (0, 2), (0, 3), (0, 4), (0, 5), (0, 6)] []
theorem fx87 : ∀ y, ts87 = some y → Fix y.m := fix_stS
noncomputable def ts88 : Option St := stS 6 2 5 false [[4, 0, 5, 6, 1, 2, 3]] [(0, 2), (0, 3), (0, 0), (0, 4), (0, 5), (0, 6)] []
theorem fx88 : ∀ y, ts88 = some y → Fix y.m := fix_stS
noncomputable def ts89 : Option St := stS 6 2 6 false [[4, 5, 0, 6, 1, 2, 3]] [(0, 3), (0, 0), (0, 1), (0, 4), (0, 5), (0, 6)] []
theorem fx89 : ∀ y, ts89 = some y → Fix y.m := fix_stS
noncomputable def ts90 : Option St := stS 6 2 1 false [[4, 5, 6, 0, 1, 2, 3]] [(0, 0), (0, 1), (0, 2), (0, 4), (0, 5), (0, 6)] []
theorem fx90 : ∀ y, ts90 = some y → Fix y.m := fix_stS
noncomputable def ts91 : Option St := stS 6 2 2 false [[4, 5, 6, 1, 0, 2, 3]] [(0, 0), (0, 1), (0, 2), (0, 5), (0, 6), (0, 3)] []
theorem fx91 : ∀ y, ts91 = some y → Fix y.m := fix_stS
noncomputable def ts92 : Option St := stS 6 2 3 false [[4, 5, 6, 1, 2, 0, 3]] [(0, 0), (0, 1), (0, 2), (0, 6), (0, 3), (0, 4)] []
theorem fx92 : ∀ y, ts92 = some y → Fix y.m := fix_stS
noncomputable def ts93 : Option St := stS 6 2 4 false [[4, 5, 6, 1, 2, 3]] [(0, 0), (0, 1), (0, 2), (0, 3), (0, 4), (0, 5)] []
theorem fx93 : ∀ y, ts93 = some y → Fix y.m := fix_stS
noncomputable def ts94 : Option St := stS 6 2 5 false [[0, 5, 6, 1, 2, 3, 4]] [(0, 1), (0, 2), (0, 3), (0, 4), (0, 5), (0, 6)] []
theorem fx94 : ∀ y, ts94 = some y → Fix y.m := fix_stS
noncomputable def ts95 : Option St := stS 6 2 6 false [[5, 0, 6, 1, 2, 3, 4]] [(0, 2), (0, 0), (0, 3), (0, 4), (0, 5), (0, 6)] []
theorem fx95 : ∀ y, ts95 = some y → Fix y.m := fix_stS
noncomputable def ts96 : Option St := stS 6 2 1 false [[5, 6, 0, 1, 2, 3, 4]] [(0, 0), (0, 1), (0, 3), (0, 4), (0, 5), (0, 6)] []
theorem fx96 : ∀ y, ts96 = some y → Fix y.m := fix_stS
noncomputable def ts97 : Option St := stS 7 2 1 false [[1, 2, 3, 4, 5, 6, 7]] [(0, 0), (0, 1), (0, 2), (0, 3), (0, 4), (0, 5), (0, 6)] []
theorem fx97 : ∀ y, ts97 = some y → Fix y.m := fix_stS
theorem fy97 : ∀ y, ts97 = some y → Fix1 y.m := fix_st1
noncomputable def ts98 : Option St := stS 7 1 1 false [[0, 0, 0, 0, 0, 0, 0, 1, 2], [3, 4, 5, 6, 7]] [(0, 7), (0, 8), (1, 0), (1, 1), (1, 2), (1, 3), (1, 4)] []
theorem fx98 : ∀ y, ts98 = some y → Fix y.m := fix_stS
noncomputable def ts99 : Option St := stS 7 1 1 false [[1, 2, 3, 4, 5, 6, 7], []] [(0, 0), (0, 1), (0, 2), (0, 3), (0, 4), (0, 5), (0, 6)] []
theorem fx99 : ∀ y, ts99 = some y → Fix y.m := fix_stS
noncomputable def ts100 : Option St := stS 7 2 2 false [[0, 2, 3, 4, 5, 6, 7, 1]] [(0, 1), (0, 2), (0, 3), (0, 4), (0, 5), (0, 6), (0, 7)] []
theorem fx100 : ∀ y, ts100 = some y → Fix y.m := fix_stS
noncomputable def ts101 : Option St := stS 7 2 3 false [[2, 0, 3, 4, 5, 6, 7, 1]] [(0, 2), (0, 3), (0, 4), (0, 5), (0, 6), (0, 0), (0, 7)] []
theorem fx101 : ∀ y, ts101 = some y → Fix y.m := fix_stS
noncomputable def ts102 : Option St := stS 7 2 4 false [[2, 3, 0, 4, 5, 6, 7, 1]] [(0, 3), (0, 4), (0, 5), (0, 6), (0, 0), (0, 1), (0, 7)] []
theorem fx102 : ∀ y, ts102 = some y → Fix y.m := fix_stS
noncomputable def ts103 : Option St := stS 7 2 5 false [[2, 3, 4, 0, 5, 6, 7, 1]] [(0, 4), (0, 5), (0, 6), (0, 0), (0, 1), (0, 2), (0, 7)] []
theorem fx103 : ∀ y, ts103 = some y → Fix y.m := fix_stS
noncomputable def ts104 : Option St := stS 7 2 6 false [[2, 3, 4, 5, 0, 6, 7, 1]] [(0, 5), (0, 6), (0, 0), (0, 1), (0, 2), (0, 3), (0, 7)] []
theorem fx104 : ∀ y, ts104 = some y → Fix y.m := fix_stS
noncomputable def ts105 : Option St := stS 7 2 7 false [[2, 3, 4, 5, 6, 0, 7, 1]] [(0, 6), (0, 0), (0, 1), (0, 2), (0, 3), (0, 4), (0, 7)] []
theorem fx105 : ∀ y, ts105 = some y → Fix y.m := fix_stS
noncomputable def ts106 : Option St := stS 7 2 1 false [[2, 3, 4, 5, 6, 7, 0, 1]] [(0, 0), (0, 1), (0, 2), (0, 3), (0, 4), (0, 5), (0, 7)] []
theorem fx106 : ∀ y, ts106 = some y → Fix y.m := fix_stS
noncomputable def ts107 : Option St := stS 7 2 2 false [[2, 3, 4, 5, 6, 7, 1]] [(0, 0), (0, 1), (0, 2), (0, 3), (0, 4), (0, 5), (0, 6)] []
theorem fx107 : ∀ y, ts107 = some y → Fix y.m := fix_stS
noncomputable def ts108 : Option St := stS 7 2 3 false [[0, 3, 4, 5, 6, 7, 1, 2]] [(0, 1), (0, 2), (0, 3), (0, 4), (0, 5), (0, 6), (0, 7)] []
theorem fx108 : ∀ y, ts108 = some y → Fix y.m := fix_stS
noncomputable def ts109 : Option St := stS 7 2 4 false [[3, 0, 4, 5, 6, 7, 1, 2]] [(0, 2), (0, 3), (0, 4), (0, 5), (0, 0), (0, 6), (0, 7)] []
theorem fx109 : ∀ y, ts109 = some y → Fix y.m := fix_stS
noncomputable def ts110 : Option St := stS 7 2 5 false [[3, 4, 0, 5, 6, 7, 1, 2]] [(0, 3), (0, 4), (0, 5), (0, 0), (0, 1), (0, 6), (0, 7)] []
theorem fx110 : ∀ y, ts110 = some y → Fix y.m := fix_stS
noncomputable def ts111 : Option St := stS 7 2 6 false [[3, 4, 5, 0, 6, 7, 1, 2]] [(0, 4), (0, 5), (0, 0), (0, 1), (0, 2), (0, 6), (0, 7)] []
theorem fx111 : ∀ y, ts111 = some y → Fix y.m := fix_stS
noncomputable def ts112 : Option St := stS 7 2 7 false [[3, 4, 5, 6, 0, 7, 1, 2]] [(0, 5), (0, 0), (0, 1), (0, 2), (0, 3), (0, 6), (0, 7)] []
theorem fx112 : ∀ y, ts112 = some y → Fix y.m := fix_stS
noncomputable def ts113 : Option St := stS 7 2 1 false [[3, 4, 5, 6, 7, 0, 1, 2]] [(0, 0), (0, 1), (0, 2), (0, 3), (0, 4), (0, 6), (0, 7)] []
theorem fx113 : ∀ y, ts113 = some y → Fix y.m := fix_stS
noncomputable def ts114 : Option St := stS 7 2 2 false [[3, 4, 5, 6, 7, 1, 0, 2]] [(0, 0), (0, 1), (0, 2), (0, 3), (0, 4), (0, 7), (0, 5)] []
theorem fx114 : ∀ y, ts114 = some y → Fix y.m := fix_stS
noncomputable def ts115 : Option St := stS 7 2 3 false [[3, 4, 5, 6, 7, 1, 2]] [(0, 0), (0, 1), (0, 2), (0, 3), (0, 4), (0, 5), (0, 6)] []
theorem fx115 : ∀ y, ts115 = some y → Fix y.m := fix_stS
noncomputable def ts116 : Option St := stS 7 2 4 false [[0, 4, 5, 6, 7, 1, 2, 3]] [(0, 1), (0, 2), (0, 3), (0, 4), (0, 5), (0, 6), (0, 7)] []
theorem fx116 : ∀ y, ts116 = some y → Fix y.m := fix_stS
noncomputable def ts117 : Option St := stS 7 2 5 false [[4, 0, 5, 6, 7, 1, 2, 3]] [(0, 2), (0, 3), (0, 4), (0, 0), (0, 5), (0, 6), (0, 7)] []
theorem fx117 : ∀ y, ts117 = some y → Fix y.m := fix_stS
noncomputable def ts118 : Option St := stS 7 2 6 false [[4, 5, 0, 6, 7, 1, 2, 3]] [(0, 3), (0, 4), (0, 0), (0, 1), (0, 5), (0, 6), (0, 7)] []
theorem fx118 : ∀ y, ts118 = some y → Fix y.m := fix_stS
noncomputable def ts119 : Option St := stS 7 2 7 false [[4, 5, 6, 0, 7, 1, 2, 3]] [(0, 4), (0, 0), (0, 1), (0, 2), (0, 5), (0, 6), (0, 7)] []
theorem fx119 : ∀ y, ts119 = some y → Fix y.m := fix_stS
noncomputable def ts120 : Option St := stS 7 2 1 false [[4, 5, 6, 7, 0, 1, 2, 3]] [(0, 0), (0, 1), (0, 2), (0, 3), (0, 5), (0, 6), (0, 7)] []
theorem fx120 : ∀ y, ts120 = some y → Fix y.m := fix_stS
noncomputable def ts121 : Option St := stS 7 2 2 false [[4, 5, 6, 7, 1, 0, 2, 3]] [(0, 0), (0, 1), (0, 2), (0, 3), (0, 6), (0, 7), (0, 4)] []
theorem fx121 : ∀ y, ts121 = some y → Fix y.m := fix_stS
noncomputable def ts122 : Option St := stS 7 2 3 false [[4, 5, 6, 7, 1, 2, 0, 3]] [(0, 0), (0, 1), (0, 2), (0, 3), (0, 7), (0, 4), (0, 5)] []
theorem fx122 : ∀ y, ts122 = some y → Fix y.m := fix_stS
noncomputable def ts123 : Option St := stS 7 2 4 false [[4, 5, 6, 7, 1, 2, 3]] [(0, 0), (0, 1), (0, 2), (0, 3), (0, 4), (0, 5), (0, 6)] []
theorem fx123 : ∀ y, ts123 = some y → Fix y.m := fix_stS
noncomputable def ts124 : Option St := stS 8 2 1 false [[1, 2, 3, 4, 5, 6, 7, 8]] [(0, 0), (0, 1), (0, 2), (0, 3), (0, 4), (0, 5), (0, 6), (0, 7)] []
theorem fx124 : ∀ y, ts124 = some y → Fix y.m := fix_stS
theorem fy124 : ∀ y, ts124 = some y → Fix1 y.m := fix_st1
noncomputable def ts125 : Option St := stS 8 1 1 false [[0, 0, 0, 0, 0, 0, 0, 0, 1], [2, 3, 4, 5, 6, 7, 8]] [(0, 8), (1, 0), (1, 1), (1, 2), (1, 3), (1, 4), (1, 5), (1, 6)] []
theorem fx125 : ∀ y, ts125 = some y → Fix y.m := fix_stS
noncomputable def ts126 : Option St := stS 8 1 1 false [[1, 2, 3, 4, 5, 6, 7, 8], []] [(0, 0), (0, 1), (0, 2), (0, 3), (0, 4), (0, 5), (0, 6), (0, 7)] []
theorem fx126 : ∀ y, ts126 = some y → Fix y.m := fix_stS
noncomputable def ts127 : Option St := stS 8 2 2 false [[0, 2, 3, 4, 5, 6, 7, 8, 1]] [(0, 1), (0, 2), (0, 3), (0, 4), (0, 5), (0, 6), (0, 7), (0, 8)] []
theorem fx127 : ∀ y, ts127 = some y → Fix y.m := fix_stS
noncomputable def ts128 : Option St := stS 8 2 3 false [[2, 0, 3, 4, 5, 6, 7, 8, 1]] [(0, 2), (0, 3), (0, 4), (0, 5), (0, 6), (0, 7), (0, 0), (0, 8)] []
theorem fx128 : ∀ y, ts128 = some y → Fix y.m := fix_stS
noncomputable def ts129 : Option St := stS 8 2 4 false [[2, 3, 0, 4, 5, 6, 7, 8, 1]] [(0, 3), (0, 4), (0, 5), (0, 6), (0, 7), (0, 0), (0, 1), (0, 8)] []
theorem fx129 : ∀ y, ts129 = some y → Fix y.m := fix_stS
noncomputable def ts130 : Option St := stS 8 2 5 false [[2, 3, 4, 0, 5, 6, 7, 8, 1]] [(0, 4), (0, 5), (0, 6), (0, 7), (0, 0), (0, 1), (0, 2), (0, 8)] []
theorem fx130 : ∀ y, ts130 = some y → Fix y.m := fix_stS
noncomputable def ts131 : Option St := stS 8 2 6 false [[2, 3, 4, 5, 0, 6, 7, 8, 1]] [(0, 5), (0, 6), (0, 7), (0, 0), (0, 1), (0, 2), (0, 3), (0, 8)] []
theorem fx131 : ∀ y, ts131 = some y → Fix y.m := fix_stS
noncomputable def ts132 : Option St := stS 8 2 7 false [[2, 3, 4, 5, 6, 0, 7, 8, 1]] [(0, 6), (0, 7), (0, 0), (0, 1), (0, 2), (0, 3), (0, 4), (0, 8)] []
theorem fx132 : ∀ y, ts132 = some y → Fix y.m := fix_stS
noncomputable def ts133 : Option St := stS 8 2 8 false [[2, 3, 4, 5, 6, 7, 0, 8, 1]] [(0, 7), (0, 0), (0, 1), (0, 2), (0, 3), (0, 4), (0, 5), (0, 8)] []
theorem fx133 : ∀ y, ts133 = some y → Fix y.m := fix_stS
noncomputable def ts134 : Option St := stS 8 2 1 false [[2, 3, 4, 5, 6, 7, 8, 0, 1]] [(0, 0), (0, 1), (0, 2), (0, 3), (0, 4), (0, 5), (0, 6), (0, 8)] []
theorem fx134 : ∀ y, ts134 = some y → Fix y.m := fix_stS
noncomputable def ts135 : Option St := stS 8 2 2 false [[2, 3, 4, 5, 6, 7, 8, 1]] [(0, 0), (0, 1), (0, 2), (0, 3), (0, 4), (0, 5), (0, 6), (0, 7)] []
theorem fx135 : ∀ y, ts135 = some y → Fix y.m := fix_stS
noncomputable def ts136 : Option St := stS 8 2 3 false [[0, 3, 4, 5, 6, 7, 8, 1, 2]] [(0, 1), (0, 2), (0, 3), (0, 4), (0, 5), (0, 6), (0, 7), (0, 8)] []
theorem fx136 : ∀ y, ts136 = some y → Fix y.m := fix_stS
noncomputable def ts137 : Option St := stS 8 2 4 false [[3, 0, 4, 5, 6, 7, 8, 1, 2]] [(0, 2), (0, 3), (0, 4), (0, 5), (0, 6), (0, 0), (0, 7), (0, 8)] []
theorem fx137 : ∀ y, ts137 = some y → Fix y.m := fix_stS
noncomputable def ts138 : Option St := stS 8 2 5 false [[3, 4, 0, 5, 6, 7, 8, 1, 2]] [(0, 3), (0, 4), (0, 5), (0, 6), (0, 0), (0, 1), (0, 7), (0, 8)] []
theorem fx138 : ∀ y, ts138 = some y → Fix y.m := fix_stS
noncomputable def ts139 : Option St := stS 8 2 6 false [[3, 4, 5, 0, 6, 7, 8, 1, 2]] [(0, 4), (0, 5), (0, 6), (0, 0), (0, 1), (0, 2), (0, 7), (0, 8)] []
theorem fx139 : ∀ y, ts139 = some y → Fix y.m := fix_stS
noncomputable def ts140 : Option St := stS 8 2 7 false [[3, 4, 5, 6, 0, 7, 8, 1, 2]] [(0, 5), (0, 6), (0, 0), (0, 1), (0, 2), (0, 3), (0, 7), (0, 8)] []
theorem fx140 : ∀ y, ts140 = some y → Fix y.m := fix_stS
noncomputable def ts141 : Option St := stS 8 2 8 false [[3, 4, 5, 6, 7, 0, 8, 1, 2]] [(0, 6), (0, 0), (0, 1), (0, 2), (0, 3), (0, 4), (0, 7), (0, 8)] []
theorem fx141 : ∀ y, ts141 = some y → Fix y.m := fix_stS
noncomputable def ts142 : Option St := stS 8 2 1 false [[3, 4, 5, 6, 7, 8, 0, 1, 2]] [(0, 0), (0, 1), (0, 2), (0, 3), (0, 4), (0, 5), (0, 7), (0, 8)] []
theorem fx142 : ∀ y, ts142 = some y → Fix y.m := fix_stS
noncomputable def ts143 : Option St := stS 8 2 2 false [[3, 4, 5, 6, 7, 8, 1, 0, 2]] [(0, 0), (0, 1), (0, 2), (0, 3), (0, 4), (0, 5), (0, 8), (0, 6)] []
theorem fx143 : ∀ y, ts143 = some y → Fix y.m := fix_stS
noncomputable def ts144 : Option St := stS 8 2 3 false [[3, 4, 5, 6, 7, 8, 1, 2]] [(0, 0), (0, 1), (0, 2), (0, 3), (0, 4), (0, 5), (0, 6), (0, 7)] []
theorem fx144 : ∀ y, ts144 = some y → Fix y.m := fix_stS
noncomputable def ts145 : Option St := stS 8 2 4 false [[0, 4, 5, 6, 7, 8, 1, 2, 3]] [(0, 1), (0, 2), (0, 3), (0, 4), (0, 5), (0, 6), (0, 7), (0, 8)] []
theorem fx145 : ∀ y, ts145 = some y → Fix y.m := fix_stS
noncomputable def ts146 : Option St := stS 8 2 5 false [[4, 0, 5, 6, 7, 8, 1, 2, 3]] [(0, 2), (0, 3), (0, 4), (0, 5), (0, 0), (0, 6), (0, 7), (0, 8)] []
theorem fx146 : ∀ y, ts146 = some y → Fix y.m := fix_stS
noncomputable def ts147 : Option St := stS 8 2 6 false [[4, 5, 0, 6, 7, 8, 1, 2, 3]] [(0, 3), (0, 4), (0, 5), (0, 0), (0, 1), (0, 6), (0, 7), (0, 8)] []
theorem fx147 : ∀ y, ts147 = some y → Fix y.m := fix_stS
noncomputable def ts148 : Option St := stS 8 2 7 false [[4, 5, 6, 0, 7, 8, 1, 2, 3]] [(0, 4), (0, 5), (0, 0), (0, 1), (0, 2), (0, 6), (0, 7), (0, 8)] []
theorem fx148 : ∀ y, ts148 = some y → Fix y.m := fix_stS
noncomputable def ts149 : Option St := stS 8 2 8 false [[4, 5, 6, 7, 0, 8, 1, 2, 3]] [(0, 5), (0, 0), (0, 1), (0, 2), (0, 3), (0, 6), (0, 7), (0, 8)] []
theorem fx149 : ∀ y, ts149 = some y → Fix y.m := fix_stS
noncomputable def ts150 : Option St := stS 8 2 1 false [[4, 5, 6, 7, 8, 0, 1, 2, 3]] [(0, 0), (0, 1), (0, 2), (0, 3), (0, 4), (0, 6), (0, 7), (0, 8)] []
theorem fx150 : ∀ y, ts150 = some y → Fix y.m := fix_stS
noncomputable def ts151 : Option St := stS 9 2 1 true [[1, 2, 3, 4, 5, 6, 7, 8, 9]] [(0, 0), (0, 1), (0, 2), (0, 3)] [(0, 4), (0, 5), (0, 6), (0, 7), (0, 8)]
theorem fx151 : ∀ y, ts151 = some y → Fix y.m := fix_stS
theorem fy151 : ∀ y, ts151 = some y → Fix1 y.m := fix_st1
noncomputable def ts152 : Option St := stS 9 1 1 false [[], [1, 2, 3, 4, 5, 6, 7, 8, 9]] [(1, 0), (1, 1), (1, 2), (1, 3)] [(1, 4), (1, 5), (1, 6), (1, 7), (1, 8)]
theorem fx152 : ∀ y, ts152 = some y → Fix y.m := fix_stS
noncomputable def ts153 : Option St := stS 9 1 1 false [[1, 2, 3, 4, 5, 6, 7, 8, 9], []] [(0, 0), (0, 1), (0, 2), (0, 3)] [(0, 4), (0, 5), (0, 6), (0, 7), (0, 8)]
theorem fx153 : ∀ y, ts153 = some y → Fix y.m := fix_stS
noncomputable def ts154 : Option St := stS 9 1 2 false [[0, 2, 3, 4, 5, 6, 7, 8, 9], [1]] [(0, 1), (0, 2), (0, 3), (0, 4)] [(0, 5), (0, 6), (0, 7), (0, 8), (1, 0)]
theorem fx154 : ∀ y, ts154 = some y → Fix y.m := fix_stS
noncomputable def ts155 : Option St := stS 9 1 3 false [[2, 0, 3, 4, 5, 6, 7, 8, 9], [1]] [(0, 2), (0, 3), (0, 4), (0, 5)] [(0, 6), (0, 7), (0, 8), (0, 0), (1, 0)]
theorem fx155 : ∀ y, ts155 = some y → Fix y.m := fix_stS
noncomputable def ts156 : Option St := stS 9 1 4 false [[2, 3, 0, 4, 5, 6, 7, 8, 9], [1]] [(0, 3), (0, 4), (0, 5), (0, 6)] [(0, 7), (0, 8), (0, 0), (0, 1), (1, 0)]
theorem fx156 : ∀ y, ts156 = some y → Fix y.m := fix_stS
noncomputable def ts157 : Option St := stS 9 1 5 false [[2, 3, 4, 0, 5, 6, 7, 8, 9], [1]] [(0, 4), (0, 5), (0, 6), (0, 7)] [(0, 8), (0, 0), (0, 1), (0, 2), (1, 0)]
theorem fx157 : ∀ y, ts157 = some y → Fix y.m := fix_stS
noncomputable def ts158 : Option St := stS 9 1 6 false [[2, 3, 4, 5, 0, 6, 7, 8, 9], [1]] [(0, 5), (0, 6), (0, 7), (0, 8)] [(0, 0), (0, 1), (0, 2), (0, 3), (1, 0)]
theorem fx158 : ∀ y, ts158 = some y → Fix y.m := fix_stS
noncomputable def ts159 : Option St := stS 9 1 7 false [[2, 3, 4, 5, 6, 0, 7, 8, 9], [1]] [(0, 6), (0, 7), (0, 8), (0, 0)] [(0, 1), (0, 2), (0, 3), (0, 4), (1, 0)]
theorem fx159 : ∀ y, ts159 = some y → Fix y.m := fix_stS
noncomputable def ts160 : Option St := stS 9 1 8 false [[2, 3, 4, 5, 6, 7, 0, 8, 9], [1]] [(0, 7), (0, 8), (0, 0), (0, 1)] [(0, 2), (0, 3), (0, 4), (0, 5), (1, 0)]
theorem fx160 : ∀ y, ts160 = some y → Fix y.m := fix_stS
noncomputable def ts161 : Option St := stS 9 1 9 false [[2, 3, 4, 5, 6, 7, 8, 0, 9], [1]] [(0, 8), (0, 0), (0, 1), (0, 2)] [(0, 3), (0, 4), (0, 5), (0, 6), (1, 0)]
theorem fx161 : ∀ y, ts161 = some y → Fix y.m := fix_stS
noncomputable def ts162 : Option St := stS 9 1 1 false [[2, 3, 4, 5, 6, 7, 8, 9], [1]] [(0, 0), (0, 1), (0, 2), (0, 3)] [(0, 4), (0, 5), (0, 6), (0, 7), (1, 0)]
theorem fx162 : ∀ y, ts162 = some y → Fix y.m := fix_stS
noncomputable def ts163 : Option St := stS 9 1 2 false [[2, 3, 4, 5, 6, 7, 8, 9, 1], []] [(0, 0), (0, 1), (0, 2), (0, 3)] [(0, 4), (0, 5), (0, 6), (0, 7), (0, 8)]
theorem fx163 : ∀ y, ts163 = some y → Fix y.m := fix_stS
noncomputable def ts164 : Option St := stS 9 1 3 false [[0, 3, 4, 5, 6, 7, 8, 9, 1], [2]] [(0, 1), (0, 2), (0, 3), (0, 4)] [(0, 5), (0, 6), (0, 7), (0, 8), (1, 0)]
theorem fx164 : ∀ y, ts164 = some y → Fix y.m := fix_stS
noncomputable def ts165 : Option St := stS 9 1 4 false [[3, 0, 4, 5, 6, 7, 8, 9, 1], [2]] [(0, 2), (0, 3), (0, 4), (0, 5)] [(0, 6), (0, 7), (0, 0), (0, 8), (1, 0)]
theorem fx165 : ∀ y, ts165 = some y → Fix y.m := fix_stS
noncomputable def ts166 : Option St := stS 9 1 5 false [[3, 4, 0, 5, 6, 7, 8, 9, 1], [2]] [(0, 3), (0, 4), (0, 5), (0, 6)] [(0, 7), (0, 0), (0, 1), (0, 8), (1, 0)]
theorem fx166 : ∀ y, ts166 = some y → Fix y.m := fix_stS
noncomputable def ts167 : Option St := stS 9 1 6 false [[3, 4, 5, 0, 6, 7, 8, 9, 1], [2]] [(0, 4), (0, 5), (0, 6), (0, 7)] [(0, 0), (0, 1), (0, 2), (0, 8), (1, 0)]
theorem fx167 : ∀ y, ts167 = some y → Fix y.m := fix_stS
noncomputable def ts168 : Option St := stS 9 1 7 false [[3, 4, 5, 6, 0, 7, 8, 9, 1], [2]] [(0, 5), (0, 6), (0, 7), (0, 0)] [(0, 1), (0, 2), (0, 3), (0, 8), (1, 0)]
theorem fx168 : ∀ y, ts168 = some y → Fix y.m := fix_stS
noncomputable def ts169 : Option St := stS 9 1 8 false [[3, 4, 5, 6, 7, 0, 8, 9, 1], [2]] [(0, 6), (0, 7), (0, 0), (0, 1)] [(0, 2), (0, 3), (0, 4), (0, 8), (1, 0)]
theorem fx169 : ∀ y, ts169 = some y → Fix y.m := fix_stS
noncomputable def ts170 : Option St := stS 9 1 9 false [[3, 4, 5, 6, 7, 8, 0, 9, 1], [2]] [(0, 7), (0, 0), (0, 1), (0, 2)] [(0, 3), (0, 4), (0, 5), (0, 8), (1, 0)]
theorem fx170 : ∀ y, ts170 = some y → Fix y.m := fix_stS
noncomputable def ts171 : Option St := stS 9 1 1 false [[3, 4, 5, 6, 7, 8, 9, 0, 1], [2]] [(0, 0), (0, 1), (0, 2), (0, 3)] [(0, 4), (0, 5), (0, 6), (0, 8), (1, 0)]
theorem fx171 : ∀ y, ts171 = some y → Fix y.m := fix_stS
noncomputable def ts172 : Option St := stS 9 1 2 false [[3, 4, 5, 6, 7, 8, 9, 1], [2]] [(0, 0), (0, 1), (0, 2), (0, 3)] [(0, 4), (0, 5), (0, 6), (1, 0), (0, 7)]
theorem fx172 : ∀ y, ts172 = some y → Fix y.m := fix_stS
noncomputable def ts173 : Option St := stS 9 1 3 false [[3, 4, 5, 6, 7, 8, 9, 1, 2], []] [(0, 0), (0, 1), (0, 2), (0, 3)] [(0, 4), (0, 5), (0, 6), (0, 7), (0, 8)]
theorem fx173 : ∀ y, ts173 = some y → Fix y.m := fix_stS
noncomputable def ts174 : Option St := stS 9 1 4 false [[0, 4, 5, 6, 7, 8, 9, 1, 2], [3]] [(0, 1), (0, 2), (0, 3), (0, 4)] [(0, 5), (0, 6), (0, 7), (0, 8), (1, 0)]
theorem fx174 : ∀ y, ts174 = some y → Fix y.m := fix_stS
noncomputable def ts175 : Option St := stS 9 1 5 false [[4, 0, 5, 6, 7, 8, 9, 1, 2], [3]] [(0, 2), (0, 3), (0, 4), (0, 5)] [(0, 6), (0, 0), (0, 7), (0, 8), (1, 0)]
theorem fx175 : ∀ y, ts175 = some y → Fix y.m := fix_stS
noncomputable def ts176 : Option St := stS 9 1 6 false [[4, 5, 0, 6, 7, 8, 9, 1, 2], [3]] [(0, 3), (0, 4), (0, 5), (0, 6)] [(0, 0), (0, 1), (0, 7), (0, 8), (1, 0)]
theorem fx176 : ∀ y, ts176 = some y → Fix y.m := fix_stS
noncomputable def ts177 : Option St := stS 9 1 7 false [[4, 5, 6, 0, 7, 8, 9, 1, 2], [3]] [(0, 4), (0, 5), (0, 6), (0, 0)] [(0, 1), (0, 2), (0, 7), (0, 8), (1, 0)]
theorem fx177 : ∀ y, ts177 = some y → Fix y.m := fix_stS
noncomputable def ts178 : Option St := stS 10 1 1 true [[1, 2, 3, 4, 5, 6, 7, 8, 9], [10]] [(0, 0), (0, 1), (0, 2), (0, 3)] [(0, 4), (0, 5), (0, 6), (0, 7), (0, 8), (1, 0)]
theorem fx178 : ∀ y, ts178 = some y → Fix y.m := fix_stS
theorem fy178 : ∀ y, ts178 = some y → Fix1 y.m := fix_st1
noncomputable def ts179 : Option St := stS 10 0 1 false [[], [0, 1, 2, 3, 4, 5, 6, 7, 8], [9, 10]] [(1, 1), (1, 2), (1, 3), (1, 4), (1, 5)] [(1, 6), (1, 7), (1, 8), (2, 0), (2, 1)]
theorem fx179 : ∀ y, ts179 = some y → Fix y.m := fix_stS
noncomputable def ts180 : Option St := stS 10 0 1 false [[1, 2, 3, 4, 5, 6, 7, 8, 9], [10], []] [(0, 0), (0, 1), (0, 2), (0, 3), (0, 4)] [(0, 5), (0, 6), (0, 7), (0, 8), (1, 0)]
theorem fx180 : ∀ y, ts180 = some y → Fix y.m := fix_stS
noncomputable def ts181 : Option St := stS 10 1 2 false [[0, 2, 3, 4, 5, 6, 7, 8, 9], [10, 1]] [(0, 1), (0, 2), (0, 3), (0, 4), (0, 5)] [(0, 6), (0, 7), (0, 8), (1, 0), (1, 1)]
theorem fx181 : ∀ y, ts181 = some y → Fix y.m := fix_stS
noncomputable def ts182 : Option St := stS 10 1 3 false [[2, 0, 3, 4, 5, 6, 7, 8, 9], [10, 1]] [(0, 2), (0, 3), (0, 4), (0, 5), (0, 6)] [(0, 7), (0, 8), (1, 0), (0, 0), (1, 1)]
theorem fx182 : ∀ y, ts182 = some y → Fix y.m := fix_stS
noncomputable def ts183 : Option St := stS 10 1 4 false [[2, 3, 0, 4, 5, 6, 7, 8, 9], [10, 1]] [(0, 3), (0, 4), (0, 5), (0, 6), (0, 7)] [(0, 8), (1, 0), (0, 0), (0, 1), (1, 1)]
theorem fx183 : ∀ y, ts183 = some y → Fix y.m := fix_stS
noncomputable def ts184 : Option St := stS 10 1 5 false [[2, 3, 4, 0, 5, 6, 7, 8, 9], [10, 1]] [(0, 4), (0, 5), (0, 6), (0, 7), (0, 8)] [(1, 0), (0, 0), (0, 1), (0, 2), (1, 1)]
theorem fx184 : ∀ y, ts184 = some y → Fix y.m := fix_stS
noncomputable def ts185 : Option St := stS 10 1 6 false [[2, 3, 4, 5, 0, 6, 7, 8, 9], [10, 1]] [(0, 5), (0, 6), (0, 7), (0, 8), (1, 0)] [(0, 0), (0, 1), (0, 2), (0, 3), (1, 1)]
theorem fx185 : ∀ y, ts185 = some y → Fix y.m := fix_stS
noncomputable def ts186 : Option St := stS 10 1 7 false [[2, 3, 4, 5, 6, 0, 7, 8, 9], [10, 1]] [(0, 6), (0, 7), (0, 8), (1, 0), (0, 0)] [(0, 1), (0, 2), (0, 3), (0, 4), (1, 1)]
theorem fx186 : ∀ y, ts186 = some y → Fix y.m := fix_stS
noncomputable def ts187 : Option St := stS 10 1 8 false [[2, 3, 4, 5, 6, 7, 0, 8, 9], [10, 1]] [(0, 7), (0, 8), (1, 0), (0, 0), (0, 1)] [(0, 2), (0, 3), (0, 4), (0, 5), (1, 1)]
theorem fx187 : ∀ y, ts187 = some y → Fix y.m := fix_stS
noncomputable def ts188 : Option St := stS 10 1 9 false [[2, 3, 4, 5, 6, 7, 8, 0, 9], [10, 1]] [(0, 8), (1, 0), (0, 0), (0, 1), (0, 2)] [(0, 3), (0, 4), (0, 5), (0, 6), (1, 1)]
theorem fx188 : ∀ y, ts188 = some y → Fix y.m := fix_stS
noncomputable def ts189 : Option St := stS 10 1 10 false [[2, 3, 4, 5, 6, 7, 8, 9], [10, 1]] [(1, 0), (0, 0), (0, 1), (0, 2), (0, 3)] [(0, 4), (0, 5), (0, 6), (0, 7), (1, 1)]
theorem fx189 : ∀ y, ts189 = some y → Fix y.m := fix_stS
noncomputable def ts190 : Option St := stS 10 1 1 false [[2, 3, 4, 5, 6, 7, 8, 9, 10], [0, 1]] [(0, 0), (0, 1), (0, 2), (0, 3), (0, 4)] [(0, 5), (0, 6), (0, 7), (0, 8), (1, 1)]
theorem fx190 : ∀ y, ts190 = some y → Fix y.m := fix_stS
noncomputable def ts191 : Option St := stS 10 1 2 false [[2, 3, 4, 5, 6, 7, 8, 9, 10], [1]] [(0, 0), (0, 1), (0, 2), (0, 3), (0, 4)] [(0, 5), (0, 6), (0, 7), (0, 8), (1, 0)]
theorem fx191 : ∀ y, ts191 = some y → Fix y.m := fix_stS
noncomputable def ts192 : Option St := stS 10 1 3 false [[0, 3, 4, 5, 6, 7, 8, 9, 10], [1, 2]] [(0, 1), (0, 2), (0, 3), (0, 4), (0, 5)] [(0, 6), (0, 7), (0, 8), (1, 0), (1, 1)]
theorem fx192 : ∀ y, ts192 = some y → Fix y.m := fix_stS
noncomputable def ts193 : Option St := stS 10 1 4 false [[3, 0, 4, 5, 6, 7, 8, 9, 10], [1, 2]] [(0, 2), (0, 3), (0, 4), (0, 5), (0, 6)] [(0, 7), (0, 8), (0, 0), (1, 0), (1, 1)]
theorem fx193 : ∀ y, ts193 = some y → Fix y.m := fix_stS
noncomputable def ts194 : Option St := stS 10 1 5 false [[3, 4, 0, 5, 6, 7, 8, 9, 10], [1, 2]] [(0, 3), (0, 4), (0, 5), (0, 6), (0, 7)] [(0, 8), (0, 0), (0, 1), (1, 0), (1, 1)]
theorem fx194 : ∀ y, ts194 = some y → Fix y.m := fix_stS
noncomputable def ts195 : Option St := stS 10 1 6 false [[3, 4, 5, 0, 6, 7, 8, 9, 10], [1, 2]] [(0, 4), (0, 5), (0, 6), (0, 7), (0, 8)] [(0, 0), (0, 1), (0, 2), (1, 0), (1, 1)]
theorem fx195 : ∀ y, ts195 = some y → Fix y.m := fix_stS
noncomputable def ts196 : Option St := stS 10 1 7 false [[3, 4, 5, 6, 0, 7, 8, 9, 10], [1, 2]] [(0, 5), (0, 6), (0, 7), (0, 8), (0, 0)] [(0, 1), (0, 2), (0, 3), (1, 0), (1, 1)]
theorem fx196 : ∀ y, ts196 = some y → Fix y.m := fix_stS
noncomputable def ts197 : Option St := stS 10 1 8 false [[3, 4, 5, 6, 7, 0, 8, 9, 10], [1, 2]] [(0, 6), (0, 7), (0, 8), (0, 0), (0, 1)] [(0, 2), (0, 3), (0, 4), (1, 0), (1, 1)]
theorem fx197 : ∀ y, ts197 = some y → Fix y.m := fix_stS
noncomputable def ts198 : Option St := stS 10 1 9 false [[3, 4, 5, 6, 7, 8, 0, 9, 10], [1, 2]] [(0, 7), (0, 8), (0, 0), (0, 1), (0, 2)] [(0, 3), (0, 4), (0, 5), (1, 0), (1, 1)]
theorem fx198 : ∀ y, ts198 = some y → Fix y.m := fix_stS
noncomputable def ts199 : Option St := stS 10 1 10 false [[3, 4, 5, 6, 7, 8, 9, 0, 10], [1, 2]] [(0, 8), (0, 0), (0, 1), (0, 2), (0, 3)] [(0, 4), (0, 5), (0, 6), (1, 0), (1, 1)]
theorem fx199 : ∀ y, ts199 = some y → Fix y.m := fix_stS
noncomputable def ts200 : Option St := stS 10 1 1 false [[3, 4, 5, 6, 7, 8, 9, 10], [1, 2]] [(0, 0), (0, 1), (0, 2), (0, 3), (0, 4)] [(0, 5), (0, 6), (0, 7), (1, 0), (1, 1)]
theorem fx200 : ∀ y, ts200 = some y → Fix y.m := fix_stS
noncomputable def ts201 : Option St := stS 10 1 2 false [[3, 4, 5, 6, 7, 8, 9, 10, 1], [0, 2]] [(0, 0), (0, 1), (0, 2), (0, 3), (0, 4)] [(0, 5), (0, 6), (0, 7), (1, 1), (0, 8)]
theorem fx201 : ∀ y, ts201 = some y → Fix y.m := fix_stS
noncomputable def ts202 : Option St := stS 10 1 3 false [[3, 4, 5, 6, 7, 8, 9, 10, 1], [2]] [(0, 0), (0, 1), (0, 2), (0, 3), (0, 4)] [(0, 5), (0, 6), (0, 7), (0, 8), (1, 0)]
theorem fx202 : ∀ y, ts202 = some y → Fix y.m := fix_stS
noncomputable def ts203 : Option St := stS 10 1 4 false [[0, 4, 5, 6, 7, 8, 9, 10, 1], [2, 3]] [(0, 1), (0, 2), (0, 3), (0, 4), (0, 5)] [(0, 6), (0, 7), (0, 8), (1, 0), (1, 1)]
theorem fx203 : ∀ y, ts203 = some y → Fix y.m := fix_stS
noncomputable def ts204 : Option St := stS 10 1 5 false [[4, 0, 5, 6, 7, 8, 9, 10, 1], [2, 3]] [(0, 2), (0, 3), (0, 4), (0, 5), (0, 6)] [(0, 7), (0, 0), (0, 8), (1, 0), (1, 1)]
theorem fx204 : ∀ y, ts204 = some y → Fix y.m := fix_stS
end X
end Go.Proofs.YtnkjnclpakfgnaaGreatDoor
