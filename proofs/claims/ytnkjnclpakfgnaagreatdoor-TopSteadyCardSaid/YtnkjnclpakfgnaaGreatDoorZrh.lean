/- Rounds, run in the kernel. No conditions. -/
import Derived.Test.YtnkjnclpakfgnaaGreatDoorZa
namespace Go.Proofs.YtnkjnclpakfgnaaGreatDoor
namespace X
theorem tr0 : rdE eU ts0 ts1 60 1 = true := by kernel_rfl
theorem tr4 : rdE eU ts2 ts3 60 1 = true := by kernel_rfl
theorem tr22 : rdE eW2 ts18 ts19 60 1 = true := by kernel_rfl
theorem tr38 : rdE eW2 ts33 ts34 60 0 = true := by kernel_rfl
theorem tr49 : rdE eU ts44 ts45 60 1 = true := by kernel_rfl
theorem tr53 : rdE eW2 ts47 ts48 60 0 = true := by kernel_rfl
theorem tr61 : rdE eW0 ts55 ts56 60 0 = true := by kernel_rfl
theorem tr71 : rdE eW0 ts65 ts66 60 0 = true := by kernel_rfl
theorem tr75 : rdE eU ts70 ts71 60 1 = true := by kernel_rfl
theorem tr86 : rdE eW2 ts80 ts81 60 0 = true := by kernel_rfl
theorem tr96 : rdE eW0 ts90 ts91 60 0 = true := by kernel_rfl
theorem tr106 : rdE eW1 ts100 ts101 60 0 = true := by kernel_rfl
theorem tr114 : rdE eW2 ts108 ts109 60 0 = true := by kernel_rfl
theorem tr124 : rdE eW5 ts118 ts119 60 0 = true := by kernel_rfl
theorem tr130 : rdE eU ts125 ts126 60 1 = true := by kernel_rfl
theorem tr139 : rdE eW7 ts133 ts134 60 1 = true := by kernel_rfl
theorem tr149 : rdE eW1 ts143 ts144 60 0 = true := by kernel_rfl
theorem tr170 : rdE eW2 ts164 ts165 60 0 = true := by kernel_rfl
theorem tr180 : rdE eW3 ts174 ts175 60 0 = true := by kernel_rfl
theorem tr191 : rdE eW5 ts185 ts186 60 0 = true := by kernel_rfl
theorem tr201 : rdE eW5 ts195 ts196 60 0 = true := by kernel_rfl
end X
end Go.Proofs.YtnkjnclpakfgnaaGreatDoor
