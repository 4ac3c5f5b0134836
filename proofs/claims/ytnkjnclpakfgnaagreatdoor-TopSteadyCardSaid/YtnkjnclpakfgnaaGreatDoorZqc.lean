/- SELECT at the rounds' ends, run in the kernel. No conditions. -/
import Derived.Test.YtnkjnclpakfgnaaGreatDoorZa
import Derived.Test.YtnkjnclpakfgnaaGreatDoorYu
namespace Go.Proofs.YtnkjnclpakfgnaaGreatDoor
namespace X
theorem qb2_0 : an (selB ts0 1 0) (an (selB ts3 2 0) (an (selB ts5 2 0) (an (selB ts15 3 2) (an (selB ts19 3 0) (an (selB ts22 4 0) (an (selB ts26 4 3) (an (selB ts30 4 3) (selB ts34 4 3)))))))) = true := by kernel_rfl
theorem tq0 : selB ts0 1 0 = true := (an_ok qb2_0).1
theorem tq3 : selB ts3 2 0 = true := (an_ok (an_ok qb2_0).2).1
theorem tq5 : selB ts5 2 0 = true := (an_ok (an_ok (an_ok qb2_0).2).2).1
theorem tq15 : selB ts15 3 2 = true := (an_ok (an_ok (an_ok (an_ok qb2_0).2).2).2).1
theorem tq19 : selB ts19 3 0 = true := (an_ok (an_ok (an_ok (an_ok (an_ok qb2_0).2).2).2).2).1
theorem tq22 : selB ts22 4 0 = true := (an_ok (an_ok (an_ok (an_ok (an_ok (an_ok qb2_0).2).2).2).2).2).1
theorem tq26 : selB ts26 4 3 = true := (an_ok (an_ok (an_ok (an_ok (an_ok (an_ok (an_ok qb2_0).2).2).2).2).2).2).1
theorem tq30 : selB ts30 4 3 = true := (an_ok (an_ok (an_ok (an_ok (an_ok (an_ok (an_ok (an_ok qb2_0).2).2).2).2).2).2).2).1
theorem tq34 : selB ts34 4 3 = true := (an_ok (an_ok (an_ok (an_ok (an_ok (an_ok (an_ok (an_ok qb2_0).2).2).2).2).2).2).2).2
theorem qb2_1 : an (selB ts38 4 3) (an (selB ts42 4 3) (an (selB ts44 5 0) (an (selB ts46 5 1) (an (selB ts50 5 0) (selB ts54 5 4))))) = true := by kernel_rfl
theorem tq38 : selB ts38 4 3 = true := (an_ok qb2_1).1
theorem tq42 : selB ts42 4 3 = true := (an_ok (an_ok qb2_1).2).1
theorem tq44 : selB ts44 5 0 = true := (an_ok (an_ok (an_ok qb2_1).2).2).1
theorem tq46 : selB ts46 5 1 = true := (an_ok (an_ok (an_ok (an_ok qb2_1).2).2).2).1
theorem tq50 : selB ts50 5 0 = true := (an_ok (an_ok (an_ok (an_ok (an_ok qb2_1).2).2).2).2).1
theorem tq54 : selB ts54 5 4 = true := (an_ok (an_ok (an_ok (an_ok (an_ok qb2_1).2).2).2).2).2
theorem qb2_2 : an (selB ts58 5 3) (an (selB ts62 5 2) (an (selB ts66 5 1) (an (selB ts73 6 1) (selB ts77 6 5)))) = true := by kernel_rfl
theorem tq58 : selB ts58 5 3 = true := (an_ok qb2_2).1
theorem tq62 : selB ts62 5 2 = true := (an_ok (an_ok qb2_2).2).1
theorem tq66 : selB ts66 5 1 = true := (an_ok (an_ok (an_ok qb2_2).2).2).1
theorem tq73 : selB ts73 6 1 = true := (an_ok (an_ok (an_ok (an_ok qb2_2).2).2).2).1
theorem tq77 : selB ts77 6 5 = true := (an_ok (an_ok (an_ok (an_ok qb2_2).2).2).2).2
theorem qb2_3 : an (selB ts81 6 3) (an (selB ts85 6 1) (an (selB ts89 6 5) (selB ts93 6 3))) = true := by kernel_rfl
theorem tq81 : selB ts81 6 3 = true := (an_ok qb2_3).1
theorem tq85 : selB ts85 6 1 = true := (an_ok (an_ok qb2_3).2).1
theorem tq89 : selB ts89 6 5 = true := (an_ok (an_ok (an_ok qb2_3).2).2).1
theorem tq93 : selB ts93 6 3 = true := (an_ok (an_ok (an_ok qb2_3).2).2).2
theorem qb2_4 : an (selB ts102 7 3) (an (selB ts106 7 0) (an (selB ts110 7 4) (selB ts114 7 1))) = true := by kernel_rfl
theorem tq102 : selB ts102 7 3 = true := (an_ok qb2_4).1
theorem tq106 : selB ts106 7 0 = true := (an_ok (an_ok qb2_4).2).1
theorem tq110 : selB ts110 7 4 = true := (an_ok (an_ok (an_ok qb2_4).2).2).1
theorem tq114 : selB ts114 7 1 = true := (an_ok (an_ok (an_ok qb2_4).2).2).2
theorem qb2_5 : an (selB ts118 7 5) (an (selB ts122 7 2) (an (selB ts125 8 0) (selB ts129 8 3))) = true := by kernel_rfl
theorem tq118 : selB ts118 7 5 = true := (an_ok qb2_5).1
theorem tq122 : selB ts122 7 2 = true := (an_ok (an_ok qb2_5).2).1
theorem tq125 : selB ts125 8 0 = true := (an_ok (an_ok (an_ok qb2_5).2).2).1
theorem tq129 : selB ts129 8 3 = true := (an_ok (an_ok (an_ok qb2_5).2).2).2
theorem qb2_6 : an (selB ts133 8 7) (an (selB ts137 8 3) (selB ts141 8 7)) = true := by kernel_rfl
theorem tq133 : selB ts133 8 7 = true := (an_ok qb2_6).1
theorem tq137 : selB ts137 8 3 = true := (an_ok (an_ok qb2_6).2).1
theorem tq141 : selB ts141 8 7 = true := (an_ok (an_ok qb2_6).2).2
theorem qb2_7 : an (selB ts145 8 3) (an (selB ts149 8 7) (selB ts152 9 0)) = true := by kernel_rfl
theorem tq145 : selB ts145 8 3 = true := (an_ok qb2_7).1
theorem tq149 : selB ts149 8 7 = true := (an_ok (an_ok qb2_7).2).1
theorem tq152 : selB ts152 9 0 = true := (an_ok (an_ok qb2_7).2).2
theorem qb2_8 : an (selB ts154 9 1) (an (selB ts158 9 5) (selB ts162 9 0)) = true := by kernel_rfl
theorem tq154 : selB ts154 9 1 = true := (an_ok qb2_8).1
theorem tq158 : selB ts158 9 5 = true := (an_ok (an_ok qb2_8).2).1
theorem tq162 : selB ts162 9 0 = true := (an_ok (an_ok qb2_8).2).2
theorem qb2_9 : an (selB ts166 9 4) (an (selB ts170 9 8) (selB ts174 9 3)) = true := by kernel_rfl
theorem tq166 : selB ts166 9 4 = true := (an_ok qb2_9).1
theorem tq170 : selB ts170 9 8 = true := (an_ok (an_ok qb2_9).2).1
theorem tq174 : selB ts174 9 3 = true := (an_ok (an_ok qb2_9).2).2
theorem qb2_10 : an (selB ts181 10 1) (an (selB ts185 10 5) (selB ts189 10 9)) = true := by kernel_rfl
theorem tq181 : selB ts181 10 1 = true := (an_ok qb2_10).1
theorem tq185 : selB ts185 10 5 = true := (an_ok (an_ok qb2_10).2).1
theorem tq189 : selB ts189 10 9 = true := (an_ok (an_ok qb2_10).2).2
theorem qb2_11 : an (selB ts193 10 3) (an (selB ts197 10 7) (selB ts201 10 1)) = true := by kernel_rfl
theorem tq193 : selB ts193 10 3 = true := (an_ok qb2_11).1
theorem tq197 : selB ts197 10 7 = true := (an_ok (an_ok qb2_11).2).1
theorem tq201 : selB ts201 10 1 = true := (an_ok (an_ok qb2_11).2).2
end X
end Go.Proofs.YtnkjnclpakfgnaaGreatDoor
