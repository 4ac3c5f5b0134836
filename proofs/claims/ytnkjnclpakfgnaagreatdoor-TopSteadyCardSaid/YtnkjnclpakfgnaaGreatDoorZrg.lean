/- Rounds, run in the kernel. No conditions. -/
import Derived.Test.YtnkjnclpakfgnaaGreatDoorZa
namespace Go.Proofs.YtnkjnclpakfgnaaGreatDoor
namespace X
theorem tr10 : rdE eW0 ts7 ts8 60 0 = true := by kernel_rfl
theorem tr20 : rdE eW0 ts16 ts17 60 0 = true := by kernel_rfl
theorem tr30 : rdE eW2 ts25 ts26 60 0 = true := by kernel_rfl
theorem tr34 : rdE eW2 ts29 ts30 60 0 = true := by kernel_rfl
theorem tr44 : rdE eW0 ts39 ts40 60 0 = true := by kernel_rfl
theorem tr58 : rdE eW2 ts52 ts53 60 0 = true := by kernel_rfl
theorem tr67 : rdE eW1 ts61 ts62 60 0 = true := by kernel_rfl
theorem tr91 : rdE eW1 ts85 ts86 60 0 = true := by kernel_rfl
theorem tr101 : rdE eW5 ts95 ts96 60 1 = true := by kernel_rfl
theorem tr104 : rdE eU ts99 ts98 60 1 = true := by kernel_rfl
theorem tr109 : rdE eW4 ts103 ts104 60 0 = true := by kernel_rfl
theorem tr118 : rdE eW6 ts112 ts113 60 1 = true := by kernel_rfl
theorem tr128 : rdE eW2 ts122 ts123 60 0 = true := by kernel_rfl
theorem tr129 : rdE eU ts124 ts125 60 1 = true := by kernel_rfl
theorem tr133 : rdE eW1 ts127 ts128 60 0 = true := by kernel_rfl
theorem tr142 : rdE eW2 ts136 ts137 60 0 = true := by kernel_rfl
theorem tr152 : rdE eW4 ts146 ts147 60 0 = true := by kernel_rfl
theorem tr164 : rdE eW5 ts158 ts159 60 0 = true := by kernel_rfl
theorem tr174 : rdE eW6 ts168 ts169 60 0 = true := by kernel_rfl
theorem tr197 : rdE eW1 ts191 ts192 60 0 = true := by kernel_rfl
theorem tr207 : rdE eW1 ts201 ts202 60 0 = true := by kernel_rfl
end X
end Go.Proofs.YtnkjnclpakfgnaaGreatDoor
