/- SELECT at the rounds' ends, run in the kernel. No conditions. -/
import Derived.Test.YtnkjnclpakfgnaaGreatDoorZa
import Derived.Test.YtnkjnclpakfgnaaGreatDoorYu
namespace Go.Proofs.YtnkjnclpakfgnaaGreatDoor
namespace X
theorem tq1 : selB ts1 1 0 = true := by kernel_rfl
theorem tq6 : selB ts6 2 1 = true := by kernel_rfl
theorem tq9 : selB ts9 3 0 = true := by kernel_rfl
theorem tq12 : selB ts12 3 2 = true := by kernel_rfl
theorem tq16 : selB ts16 3 0 = true := by kernel_rfl
theorem tq20 : selB ts20 3 1 = true := by kernel_rfl
theorem tq23 : selB ts23 4 0 = true := by kernel_rfl
theorem tq27 : selB ts27 4 0 = true := by kernel_rfl
theorem tq31 : selB ts31 4 0 = true := by kernel_rfl
theorem tq35 : selB ts35 4 0 = true := by kernel_rfl
theorem tq39 : selB ts39 4 0 = true := by kernel_rfl
theorem tq45 : selB ts45 5 0 = true := by kernel_rfl
theorem tq47 : selB ts47 5 2 = true := by kernel_rfl
theorem tq51 : selB ts51 5 1 = true := by kernel_rfl
theorem tq55 : selB ts55 5 0 = true := by kernel_rfl
theorem tq59 : selB ts59 5 4 = true := by kernel_rfl
theorem tq63 : selB ts63 5 3 = true := by kernel_rfl
theorem tq67 : selB ts67 5 2 = true := by kernel_rfl
theorem tq74 : selB ts74 6 2 = true := by kernel_rfl
theorem tq78 : selB ts78 6 0 = true := by kernel_rfl
theorem tq82 : selB ts82 6 4 = true := by kernel_rfl
theorem tq86 : selB ts86 6 2 = true := by kernel_rfl
theorem tq90 : selB ts90 6 0 = true := by kernel_rfl
theorem tq94 : selB ts94 6 4 = true := by kernel_rfl
theorem tq103 : selB ts103 7 4 = true := by kernel_rfl
theorem tq107 : selB ts107 7 1 = true := by kernel_rfl
theorem tq111 : selB ts111 7 5 = true := by kernel_rfl
theorem tq115 : selB ts115 7 2 = true := by kernel_rfl
theorem tq119 : selB ts119 7 6 = true := by kernel_rfl
theorem tq123 : selB ts123 7 3 = true := by kernel_rfl
theorem tq126 : selB ts126 8 0 = true := by kernel_rfl
theorem tq130 : selB ts130 8 4 = true := by kernel_rfl
theorem tq134 : selB ts134 8 0 = true := by kernel_rfl
theorem tq138 : selB ts138 8 4 = true := by kernel_rfl
theorem tq142 : selB ts142 8 0 = true := by kernel_rfl
theorem tq146 : selB ts146 8 4 = true := by kernel_rfl
theorem tq150 : selB ts150 8 0 = true := by kernel_rfl
theorem tq153 : selB ts153 9 0 = true := by kernel_rfl
theorem tq155 : selB ts155 9 2 = true := by kernel_rfl
theorem tq159 : selB ts159 9 6 = true := by kernel_rfl
theorem tq163 : selB ts163 9 1 = true := by kernel_rfl
theorem tq167 : selB ts167 9 5 = true := by kernel_rfl
theorem tq171 : selB ts171 9 0 = true := by kernel_rfl
theorem tq175 : selB ts175 9 4 = true := by kernel_rfl
theorem tq182 : selB ts182 10 2 = true := by kernel_rfl
theorem tq186 : selB ts186 10 6 = true := by kernel_rfl
theorem tq190 : selB ts190 10 0 = true := by kernel_rfl
theorem tq194 : selB ts194 10 4 = true := by kernel_rfl
theorem tq198 : selB ts198 10 8 = true := by kernel_rfl
theorem tq202 : selB ts202 10 2 = true := by kernel_rfl
end X
end Go.Proofs.YtnkjnclpakfgnaaGreatDoor
