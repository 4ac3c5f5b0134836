/- Rounds, run in the kernel. No conditions. -/
import Derived.Test.YtnkjnclpakfgnaaGreatDoorZa
namespace Go.Proofs.YtnkjnclpakfgnaaGreatDoor
namespace X
theorem tr11 : rdE eW1 ts8 ts2 60 1 = true := by kernel_rfl
theorem tr13 : rdE eU ts10 ts9 60 1 = true := by kernel_rfl
theorem tr21 : rdE eW1 ts17 ts18 60 0 = true := by kernel_rfl
theorem tr31 : rdE eW3 ts26 ts27 60 1 = true := by kernel_rfl
theorem tr35 : rdE eW3 ts30 ts31 60 1 = true := by kernel_rfl
theorem tr45 : rdE eW1 ts40 ts41 60 0 = true := by kernel_rfl
theorem tr68 : rdE eW2 ts62 ts63 60 0 = true := by kernel_rfl
theorem tr79 : rdE eW1 ts73 ts74 60 0 = true := by kernel_rfl
theorem tr83 : rdE eW5 ts77 ts78 60 1 = true := by kernel_rfl
theorem tr93 : rdE eW3 ts87 ts88 60 0 = true := by kernel_rfl
theorem tr110 : rdE eW5 ts104 ts105 60 0 = true := by kernel_rfl
theorem tr120 : rdE eW1 ts114 ts115 60 0 = true := by kernel_rfl
theorem tr134 : rdE eW2 ts128 ts129 60 0 = true := by kernel_rfl
theorem tr143 : rdE eW3 ts137 ts138 60 0 = true := by kernel_rfl
theorem tr153 : rdE eW5 ts147 ts148 60 0 = true := by kernel_rfl
theorem tr165 : rdE eW6 ts159 ts160 60 0 = true := by kernel_rfl
theorem tr175 : rdE eW7 ts169 ts170 60 0 = true := by kernel_rfl
theorem tr183 : rdE eU ts178 ts179 60 1 = true := by kernel_rfl
theorem tr188 : rdE eW2 ts182 ts183 60 0 = true := by kernel_rfl
theorem tr198 : rdE eW2 ts192 ts193 60 0 = true := by kernel_rfl
theorem tr208 : rdE eW2 ts202 ts203 60 0 = true := by kernel_rfl
end X
end Go.Proofs.YtnkjnclpakfgnaaGreatDoor
