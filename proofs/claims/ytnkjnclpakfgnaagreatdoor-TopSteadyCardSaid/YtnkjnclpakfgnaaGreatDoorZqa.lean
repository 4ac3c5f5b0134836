/- SELECT at the rounds' ends, run in the kernel. No conditions. -/
import Derived.Test.YtnkjnclpakfgnaaGreatDoorZa
import Derived.Test.YtnkjnclpakfgnaaGreatDoorYu
namespace Go.Proofs.YtnkjnclpakfgnaaGreatDoor
namespace X
theorem tq7 : selB ts7 2 0 = true := by kernel_rfl
theorem tq10 : selB ts10 3 0 = true := by kernel_rfl
theorem tq13 : selB ts13 3 0 = true := by kernel_rfl
theorem tq17 : selB ts17 3 1 = true := by kernel_rfl
theorem tq21 : selB ts21 3 2 = true := by kernel_rfl
theorem tq24 : selB ts24 4 1 = true := by kernel_rfl
theorem tq28 : selB ts28 4 1 = true := by kernel_rfl
theorem tq32 : selB ts32 4 1 = true := by kernel_rfl
theorem tq36 : selB ts36 4 1 = true := by kernel_rfl
theorem tq40 : selB ts40 4 1 = true := by kernel_rfl
theorem tq48 : selB ts48 5 3 = true := by kernel_rfl
theorem tq52 : selB ts52 5 2 = true := by kernel_rfl
theorem tq56 : selB ts56 5 1 = true := by kernel_rfl
theorem tq60 : selB ts60 5 0 = true := by kernel_rfl
theorem tq64 : selB ts64 5 4 = true := by kernel_rfl
theorem tq68 : selB ts68 5 3 = true := by kernel_rfl
theorem tq71 : selB ts71 6 0 = true := by kernel_rfl
theorem tq75 : selB ts75 6 3 = true := by kernel_rfl
theorem tq79 : selB ts79 6 1 = true := by kernel_rfl
theorem tq83 : selB ts83 6 5 = true := by kernel_rfl
theorem tq87 : selB ts87 6 3 = true := by kernel_rfl
theorem tq91 : selB ts91 6 1 = true := by kernel_rfl
theorem tq95 : selB ts95 6 5 = true := by kernel_rfl
theorem tq98 : selB ts98 7 0 = true := by kernel_rfl
theorem tq100 : selB ts100 7 1 = true := by kernel_rfl
theorem tq104 : selB ts104 7 5 = true := by kernel_rfl
theorem tq108 : selB ts108 7 2 = true := by kernel_rfl
theorem tq112 : selB ts112 7 6 = true := by kernel_rfl
theorem tq116 : selB ts116 7 3 = true := by kernel_rfl
theorem tq120 : selB ts120 7 0 = true := by kernel_rfl
theorem tq127 : selB ts127 8 1 = true := by kernel_rfl
theorem tq131 : selB ts131 8 5 = true := by kernel_rfl
theorem tq135 : selB ts135 8 1 = true := by kernel_rfl
theorem tq139 : selB ts139 8 5 = true := by kernel_rfl
theorem tq143 : selB ts143 8 1 = true := by kernel_rfl
theorem tq147 : selB ts147 8 5 = true := by kernel_rfl
theorem tq156 : selB ts156 9 3 = true := by kernel_rfl
theorem tq160 : selB ts160 9 7 = true := by kernel_rfl
theorem tq164 : selB ts164 9 2 = true := by kernel_rfl
theorem tq168 : selB ts168 9 6 = true := by kernel_rfl
theorem tq172 : selB ts172 9 1 = true := by kernel_rfl
theorem tq176 : selB ts176 9 5 = true := by kernel_rfl
theorem tq179 : selB ts179 10 0 = true := by kernel_rfl
theorem tq183 : selB ts183 10 3 = true := by kernel_rfl
theorem tq187 : selB ts187 10 7 = true := by kernel_rfl
theorem tq191 : selB ts191 10 1 = true := by kernel_rfl
theorem tq195 : selB ts195 10 5 = true := by kernel_rfl
theorem tq199 : selB ts199 10 9 = true := by kernel_rfl
theorem tq203 : selB ts203 10 3 = true := by kernel_rfl
end X
end Go.Proofs.YtnkjnclpakfgnaaGreatDoor
