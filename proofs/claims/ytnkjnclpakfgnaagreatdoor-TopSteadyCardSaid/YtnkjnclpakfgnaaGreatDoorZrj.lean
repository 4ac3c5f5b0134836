/- Rounds, run in the kernel. No conditions. -/
import Derived.Test.YtnkjnclpakfgnaaGreatDoorZa
namespace Go.Proofs.YtnkjnclpakfgnaaGreatDoor
namespace X
theorem tr6 : rdE eW0 ts2 ts4 60 0 = true := by kernel_rfl
theorem tr14 : rdE eW0 ts9 ts11 60 0 = true := by kernel_rfl
theorem tr16 : rdE eW2 ts12 ts13 60 1 = true := by kernel_rfl
theorem tr26 : rdE eU ts22 ts23 60 1 = true := by kernel_rfl
theorem tr40 : rdE eW0 ts35 ts36 60 0 = true := by kernel_rfl
theorem tr55 : rdE eW4 ts49 ts50 60 1 = true := by kernel_rfl
theorem tr63 : rdE eW2 ts57 ts58 60 0 = true := by kernel_rfl
theorem tr73 : rdE eW2 ts67 ts68 60 0 = true := by kernel_rfl
theorem tr88 : rdE eW4 ts82 ts83 60 0 = true := by kernel_rfl
theorem tr98 : rdE eW2 ts92 ts93 60 0 = true := by kernel_rfl
theorem tr102 : rdE eU ts97 ts98 60 1 = true := by kernel_rfl
theorem tr103 : rdE eU ts98 ts99 60 1 = true := by kernel_rfl
theorem tr116 : rdE eW4 ts110 ts111 60 0 = true := by kernel_rfl
theorem tr126 : rdE eW0 ts120 ts121 60 0 = true := by kernel_rfl
theorem tr136 : rdE eW4 ts130 ts131 60 0 = true := by kernel_rfl
theorem tr146 : rdE eW6 ts140 ts141 60 0 = true := by kernel_rfl
theorem tr159 : rdE eW0 ts151 ts154 60 0 = true := by kernel_rfl
theorem tr167 : rdE eW8 ts161 ts162 60 1 = true := by kernel_rfl
theorem tr177 : rdE eW0 ts171 ts172 60 0 = true := by kernel_rfl
theorem tr193 : rdE eW7 ts187 ts188 60 0 = true := by kernel_rfl
theorem tr203 : rdE eW7 ts197 ts198 60 0 = true := by kernel_rfl
end X
end Go.Proofs.YtnkjnclpakfgnaaGreatDoor
