/- Rounds, run in the kernel. No conditions. -/
import Derived.Test.YtnkjnclpakfgnaaGreatDoorZa
namespace Go.Proofs.YtnkjnclpakfgnaaGreatDoor
namespace X
theorem tr8 : rdE eW0 ts5 ts6 60 0 = true := by kernel_rfl
theorem tr18 : rdE eW1 ts14 ts15 60 0 = true := by kernel_rfl
theorem tr28 : rdE eW0 ts22 ts24 60 0 = true := by kernel_rfl
theorem tr32 : rdE eW0 ts27 ts28 60 0 = true := by kernel_rfl
theorem tr42 : rdE eW2 ts37 ts38 60 0 = true := by kernel_rfl
theorem tr48 : rdE eU ts43 ts44 60 1 = true := by kernel_rfl
theorem tr56 : rdE eW0 ts50 ts51 60 0 = true := by kernel_rfl
theorem tr65 : rdE eW4 ts59 ts60 60 1 = true := by kernel_rfl
theorem tr81 : rdE eW3 ts75 ts76 60 0 = true := by kernel_rfl
theorem tr89 : rdE eW5 ts83 ts84 60 1 = true := by kernel_rfl
theorem tr99 : rdE eW3 ts93 ts94 60 0 = true := by kernel_rfl
theorem tr112 : rdE eW0 ts106 ts107 60 0 = true := by kernel_rfl
theorem tr122 : rdE eW3 ts116 ts117 60 0 = true := by kernel_rfl
theorem tr145 : rdE eW5 ts139 ts140 60 0 = true := by kernel_rfl
theorem tr155 : rdE eW7 ts149 ts150 60 1 = true := by kernel_rfl
theorem tr162 : rdE eW3 ts156 ts157 60 0 = true := by kernel_rfl
theorem tr172 : rdE eW4 ts166 ts167 60 0 = true := by kernel_rfl
theorem tr182 : rdE eW5 ts176 ts177 60 0 = true := by kernel_rfl
theorem tr185 : rdE eU ts180 ts179 60 1 = true := by kernel_rfl
theorem tr190 : rdE eW4 ts184 ts185 60 0 = true := by kernel_rfl
theorem tr200 : rdE eW4 ts194 ts195 60 0 = true := by kernel_rfl
end X
end Go.Proofs.YtnkjnclpakfgnaaGreatDoor
