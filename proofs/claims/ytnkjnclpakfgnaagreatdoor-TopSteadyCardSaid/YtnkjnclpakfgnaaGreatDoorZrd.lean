/- Rounds, run in the kernel. No conditions. -/
import Derived.Test.YtnkjnclpakfgnaaGreatDoorZa
namespace Go.Proofs.YtnkjnclpakfgnaaGreatDoor
namespace X
theorem tr9 : rdE eW1 ts6 ts7 60 1 = true := by kernel_rfl
theorem tr19 : rdE eW2 ts15 ts16 60 1 = true := by kernel_rfl
theorem tr29 : rdE eW1 ts24 ts25 60 0 = true := by kernel_rfl
theorem tr33 : rdE eW1 ts28 ts29 60 0 = true := by kernel_rfl
theorem tr43 : rdE eW3 ts38 ts39 60 1 = true := by kernel_rfl
theorem tr57 : rdE eW1 ts51 ts52 60 0 = true := by kernel_rfl
theorem tr66 : rdE eW0 ts60 ts61 60 0 = true := by kernel_rfl
theorem tr77 : rdE eU ts72 ts71 60 1 = true := by kernel_rfl
theorem tr90 : rdE eW0 ts84 ts85 60 0 = true := by kernel_rfl
theorem tr100 : rdE eW4 ts94 ts95 60 0 = true := by kernel_rfl
theorem tr108 : rdE eW3 ts102 ts103 60 0 = true := by kernel_rfl
theorem tr117 : rdE eW5 ts111 ts112 60 0 = true := by kernel_rfl
theorem tr127 : rdE eW1 ts121 ts122 60 0 = true := by kernel_rfl
theorem tr132 : rdE eW0 ts124 ts127 60 0 = true := by kernel_rfl
theorem tr141 : rdE eW1 ts135 ts136 60 0 = true := by kernel_rfl
theorem tr151 : rdE eW3 ts145 ts146 60 0 = true := by kernel_rfl
theorem tr156 : rdE eU ts151 ts152 60 1 = true := by kernel_rfl
theorem tr163 : rdE eW4 ts157 ts158 60 0 = true := by kernel_rfl
theorem tr173 : rdE eW5 ts167 ts168 60 0 = true := by kernel_rfl
theorem tr196 : rdE eW0 ts190 ts191 60 0 = true := by kernel_rfl
theorem tr206 : rdE eW0 ts200 ts201 60 0 = true := by kernel_rfl
end X
end Go.Proofs.YtnkjnclpakfgnaaGreatDoor
