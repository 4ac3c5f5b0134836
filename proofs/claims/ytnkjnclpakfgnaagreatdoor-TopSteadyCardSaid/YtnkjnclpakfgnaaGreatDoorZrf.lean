/- Rounds, run in the kernel. No conditions. -/
import Derived.Test.YtnkjnclpakfgnaaGreatDoorZa
namespace Go.Proofs.YtnkjnclpakfgnaaGreatDoor
namespace X
theorem tr3 : rdE eW0 ts1 ts0 60 1 = true := by kernel_rfl
theorem tr25 : rdE eW2 ts21 ts9 60 1 = true := by kernel_rfl
theorem tr37 : rdE eW1 ts32 ts33 60 0 = true := by kernel_rfl
theorem tr47 : rdE eW3 ts42 ts22 60 1 = true := by kernel_rfl
theorem tr52 : rdE eW1 ts46 ts47 60 0 = true := by kernel_rfl
theorem tr60 : rdE eW4 ts54 ts55 60 1 = true := by kernel_rfl
theorem tr70 : rdE eW4 ts64 ts65 60 1 = true := by kernel_rfl
theorem tr85 : rdE eW1 ts79 ts80 60 0 = true := by kernel_rfl
theorem tr95 : rdE eW5 ts89 ts90 60 1 = true := by kernel_rfl
theorem tr105 : rdE eW0 ts97 ts100 60 0 = true := by kernel_rfl
theorem tr113 : rdE eW1 ts107 ts108 60 0 = true := by kernel_rfl
theorem tr123 : rdE eW4 ts117 ts118 60 0 = true := by kernel_rfl
theorem tr138 : rdE eW6 ts132 ts133 60 0 = true := by kernel_rfl
theorem tr148 : rdE eW0 ts142 ts143 60 0 = true := by kernel_rfl
theorem tr158 : rdE eU ts153 ts152 60 1 = true := by kernel_rfl
theorem tr161 : rdE eW2 ts155 ts156 60 0 = true := by kernel_rfl
theorem tr169 : rdE eW1 ts163 ts164 60 0 = true := by kernel_rfl
theorem tr179 : rdE eW2 ts173 ts174 60 0 = true := by kernel_rfl
theorem tr187 : rdE eW1 ts181 ts182 60 0 = true := by kernel_rfl
theorem tr195 : rdE eW9 ts189 ts190 60 1 = true := by kernel_rfl
theorem tr205 : rdE eW9 ts199 ts200 60 1 = true := by kernel_rfl
end X
end Go.Proofs.YtnkjnclpakfgnaaGreatDoor
