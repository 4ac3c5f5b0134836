/- SELECT at the rounds' ends, run in the kernel. No conditions. -/
import Derived.Test.YtnkjnclpakfgnaaGreatDoorZa
import Derived.Test.YtnkjnclpakfgnaaGreatDoorYu
namespace Go.Proofs.YtnkjnclpakfgnaaGreatDoor
namespace X
theorem tq0 : selB ts0 1 0 = true := by kernel_rfl
theorem tq3 : selB ts3 2 0 = true := by kernel_rfl
theorem tq5 : selB ts5 2 0 = true := by kernel_rfl
theorem tq15 : selB ts15 3 2 = true := by kernel_rfl
theorem tq19 : selB ts19 3 0 = true := by kernel_rfl
theorem tq22 : selB ts22 4 0 = true := by kernel_rfl
theorem tq26 : selB ts26 4 3 = true := by kernel_rfl
theorem tq30 : selB ts30 4 3 = true := by kernel_rfl
theorem tq34 : selB ts34 4 3 = true := by kernel_rfl
theorem tq38 : selB ts38 4 3 = true := by kernel_rfl
theorem tq42 : selB ts42 4 3 = true := by kernel_rfl
theorem tq44 : selB ts44 5 0 = true := by kernel_rfl
theorem tq46 : selB ts46 5 1 = true := by kernel_rfl
theorem tq50 : selB ts50 5 0 = true := by kernel_rfl
theorem tq54 : selB ts54 5 4 = true := by kernel_rfl
theorem tq58 : selB ts58 5 3 = true := by kernel_rfl
theorem tq62 : selB ts62 5 2 = true := by kernel_rfl
theorem tq66 : selB ts66 5 1 = true := by kernel_rfl
theorem tq73 : selB ts73 6 1 = true := by kernel_rfl
theorem tq77 : selB ts77 6 5 = true := by kernel_rfl
theorem tq81 : selB ts81 6 3 = true := by kernel_rfl
theorem tq85 : selB ts85 6 1 = true := by kernel_rfl
theorem tq89 : selB ts89 6 5 = true := by kernel_rfl
theorem tq93 : selB ts93 6 3 = true := by kernel_rfl
theorem tq102 : selB ts102 7 3 = true := by kernel_rfl
theorem tq106 : selB ts106 7 0 = true := by kernel_rfl
theorem tq110 : selB ts110 7 4 = true := by kernel_rfl
theorem tq114 : selB ts114 7 1 = true := by kernel_rfl
theorem tq118 : selB ts118 7 5 = true := by kernel_rfl
theorem tq122 : selB ts122 7 2 = true := by kernel_rfl
theorem tq125 : selB ts125 8 0 = true := by kernel_rfl
theorem tq129 : selB ts129 8 3 = true := by kernel_rfl
theorem tq133 : selB ts133 8 7 = true := by kernel_rfl
theorem tq137 : selB ts137 8 3 = true := by kernel_rfl
theorem tq141 : selB ts141 8 7 = true := by kernel_rfl
theorem tq145 : selB ts145 8 3 = true := by kernel_rfl
theorem tq149 : selB ts149 8 7 = true := by kernel_rfl
theorem tq152 : selB ts152 9 0 = true := by kernel_rfl
theorem tq154 : selB ts154 9 1 = true := by kernel_rfl
theorem tq158 : selB ts158 9 5 = true := by kernel_rfl
theorem tq162 : selB ts162 9 0 = true := by kernel_rfl
theorem tq166 : selB ts166 9 4 = true := by kernel_rfl
theorem tq170 : selB ts170 9 8 = true := by kernel_rfl
theorem tq174 : selB ts174 9 3 = true := by kernel_rfl
theorem tq181 : selB ts181 10 1 = true := by kernel_rfl
theorem tq185 : selB ts185 10 5 = true := by kernel_rfl
theorem tq189 : selB ts189 10 9 = true := by kernel_rfl
theorem tq193 : selB ts193 10 3 = true := by kernel_rfl
theorem tq197 : selB ts197 10 7 = true := by kernel_rfl
theorem tq201 : selB ts201 10 1 = true := by kernel_rfl
end X
end Go.Proofs.YtnkjnclpakfgnaaGreatDoor
