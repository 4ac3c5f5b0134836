/- SELECT at the rounds' ends, run in the kernel. No conditions. -/
import Derived.Test.YtnkjnclpakfgnaaGreatDoorZa
import Derived.Test.YtnkjnclpakfgnaaGreatDoorYu
namespace Go.Proofs.YtnkjnclpakfgnaaGreatDoor
namespace X
theorem tq2 : selB ts2 2 0 = true := by kernel_rfl
theorem tq4 : selB ts4 2 1 = true := by kernel_rfl
theorem tq8 : selB ts8 2 1 = true := by kernel_rfl
theorem tq11 : selB ts11 3 1 = true := by kernel_rfl
theorem tq14 : selB ts14 3 1 = true := by kernel_rfl
theorem tq18 : selB ts18 3 2 = true := by kernel_rfl
theorem tq25 : selB ts25 4 2 = true := by kernel_rfl
theorem tq29 : selB ts29 4 2 = true := by kernel_rfl
theorem tq33 : selB ts33 4 2 = true := by kernel_rfl
theorem tq37 : selB ts37 4 2 = true := by kernel_rfl
theorem tq41 : selB ts41 4 2 = true := by kernel_rfl
theorem tq49 : selB ts49 5 4 = true := by kernel_rfl
theorem tq53 : selB ts53 5 3 = true := by kernel_rfl
theorem tq57 : selB ts57 5 2 = true := by kernel_rfl
theorem tq61 : selB ts61 5 1 = true := by kernel_rfl
theorem tq65 : selB ts65 5 0 = true := by kernel_rfl
theorem tq69 : selB ts69 5 4 = true := by kernel_rfl
theorem tq72 : selB ts72 6 0 = true := by kernel_rfl
theorem tq76 : selB ts76 6 4 = true := by kernel_rfl
theorem tq80 : selB ts80 6 2 = true := by kernel_rfl
theorem tq84 : selB ts84 6 0 = true := by kernel_rfl
theorem tq88 : selB ts88 6 4 = true := by kernel_rfl
theorem tq92 : selB ts92 6 2 = true := by kernel_rfl
theorem tq96 : selB ts96 6 0 = true := by kernel_rfl
theorem tq99 : selB ts99 7 0 = true := by kernel_rfl
theorem tq101 : selB ts101 7 2 = true := by kernel_rfl
theorem tq105 : selB ts105 7 6 = true := by kernel_rfl
theorem tq109 : selB ts109 7 3 = true := by kernel_rfl
theorem tq113 : selB ts113 7 0 = true := by kernel_rfl
theorem tq117 : selB ts117 7 4 = true := by kernel_rfl
theorem tq121 : selB ts121 7 1 = true := by kernel_rfl
theorem tq128 : selB ts128 8 2 = true := by kernel_rfl
theorem tq132 : selB ts132 8 6 = true := by kernel_rfl
theorem tq136 : selB ts136 8 2 = true := by kernel_rfl
theorem tq140 : selB ts140 8 6 = true := by kernel_rfl
theorem tq144 : selB ts144 8 2 = true := by kernel_rfl
theorem tq148 : selB ts148 8 6 = true := by kernel_rfl
theorem tq157 : selB ts157 9 4 = true := by kernel_rfl
theorem tq161 : selB ts161 9 8 = true := by kernel_rfl
theorem tq165 : selB ts165 9 3 = true := by kernel_rfl
theorem tq169 : selB ts169 9 7 = true := by kernel_rfl
theorem tq173 : selB ts173 9 2 = true := by kernel_rfl
theorem tq177 : selB ts177 9 6 = true := by kernel_rfl
theorem tq180 : selB ts180 10 0 = true := by kernel_rfl
theorem tq184 : selB ts184 10 4 = true := by kernel_rfl
theorem tq188 : selB ts188 10 8 = true := by kernel_rfl
theorem tq192 : selB ts192 10 2 = true := by kernel_rfl
theorem tq196 : selB ts196 10 6 = true := by kernel_rfl
theorem tq200 : selB ts200 10 0 = true := by kernel_rfl
theorem tq204 : selB ts204 10 4 = true := by kernel_rfl
end X
end Go.Proofs.YtnkjnclpakfgnaaGreatDoor
