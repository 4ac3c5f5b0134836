/- Rounds, run in the kernel. No conditions. -/
import Derived.Test.YtnkjnclpakfgnaaGreatDoorZa
namespace Go.Proofs.YtnkjnclpakfgnaaGreatDoor
namespace X
theorem tr2 : rdE eW0 ts0 ts1 60 1 = true := by kernel_rfl
theorem tr24 : rdE eW1 ts20 ts21 60 0 = true := by kernel_rfl
theorem tr36 : rdE eW0 ts31 ts32 60 0 = true := by kernel_rfl
theorem tr46 : rdE eW2 ts41 ts42 60 0 = true := by kernel_rfl
theorem tr51 : rdE eW0 ts43 ts46 60 0 = true := by kernel_rfl
theorem tr59 : rdE eW3 ts53 ts54 60 0 = true := by kernel_rfl
theorem tr69 : rdE eW3 ts63 ts64 60 0 = true := by kernel_rfl
theorem tr80 : rdE eW2 ts74 ts75 60 0 = true := by kernel_rfl
theorem tr84 : rdE eW0 ts78 ts79 60 0 = true := by kernel_rfl
theorem tr94 : rdE eW4 ts88 ts89 60 0 = true := by kernel_rfl
theorem tr111 : rdE eW6 ts105 ts106 60 1 = true := by kernel_rfl
theorem tr121 : rdE eW2 ts115 ts116 60 0 = true := by kernel_rfl
theorem tr135 : rdE eW3 ts129 ts130 60 0 = true := by kernel_rfl
theorem tr144 : rdE eW4 ts138 ts139 60 0 = true := by kernel_rfl
theorem tr154 : rdE eW6 ts148 ts149 60 0 = true := by kernel_rfl
theorem tr166 : rdE eW7 ts160 ts161 60 0 = true := by kernel_rfl
theorem tr176 : rdE eW8 ts170 ts171 60 1 = true := by kernel_rfl
theorem tr184 : rdE eU ts179 ts180 60 1 = true := by kernel_rfl
theorem tr189 : rdE eW3 ts183 ts184 60 0 = true := by kernel_rfl
theorem tr199 : rdE eW3 ts193 ts194 60 0 = true := by kernel_rfl
theorem tr209 : rdE eW3 ts203 ts204 60 0 = true := by kernel_rfl
end X
end Go.Proofs.YtnkjnclpakfgnaaGreatDoor
