/- Rounds, run in the kernel. No conditions. -/
import Derived.Test.YtnkjnclpakfgnaaGreatDoorZa
namespace Go.Proofs.YtnkjnclpakfgnaaGreatDoor
namespace X
theorem rb6_0 : an (rdE eW0 ts0 ts1 60 1) (an (rdE eW0 ts2 ts4 60 0) (an (rdE eW0 ts9 ts11 60 0) (rdE eW1 ts14 ts15 60 0))) = true := by kernel_rfl
theorem tr2 : rdE eW0 ts0 ts1 60 1 = true := (an_ok rb6_0).1
theorem tr6 : rdE eW0 ts2 ts4 60 0 = true := (an_ok (an_ok rb6_0).2).1
theorem tr14 : rdE eW0 ts9 ts11 60 0 = true := (an_ok (an_ok (an_ok rb6_0).2).2).1
theorem tr18 : rdE eW1 ts14 ts15 60 0 = true := (an_ok (an_ok (an_ok rb6_0).2).2).2
theorem rb6_1 : an (rdE eW2 ts29 ts30 60 0) (rdE eW2 ts37 ts38 60 0) = true := by kernel_rfl
theorem tr34 : rdE eW2 ts29 ts30 60 0 = true := (an_ok rb6_1).1
theorem tr42 : rdE eW2 ts37 ts38 60 0 = true := (an_ok rb6_1).2
theorem rb6_2 : an (rdE eW4 ts49 ts50 60 1) (rdE eW2 ts57 ts58 60 0) = true := by kernel_rfl
theorem tr55 : rdE eW4 ts49 ts50 60 1 = true := (an_ok rb6_2).1
theorem tr63 : rdE eW2 ts57 ts58 60 0 = true := (an_ok rb6_2).2
theorem rb6_3 : an (rdE eW0 ts65 ts66 60 0) (rdE eW0 ts70 ts73 60 0) = true := by kernel_rfl
theorem tr71 : rdE eW0 ts65 ts66 60 0 = true := (an_ok rb6_3).1
theorem tr78 : rdE eW0 ts70 ts73 60 0 = true := (an_ok rb6_3).2
theorem rb6_4 : an (rdE eW4 ts76 ts77 60 0) (rdE eW0 ts84 ts85 60 0) = true := by kernel_rfl
theorem tr82 : rdE eW4 ts76 ts77 60 0 = true := (an_ok rb6_4).1
theorem tr90 : rdE eW0 ts84 ts85 60 0 = true := (an_ok rb6_4).2
theorem tr98 : rdE eW2 ts92 ts93 60 0 = true := by kernel_rfl
theorem tr108 : rdE eW3 ts102 ts103 60 0 = true := by kernel_rfl
theorem tr113 : rdE eW1 ts107 ts108 60 0 = true := by kernel_rfl
theorem tr121 : rdE eW2 ts115 ts116 60 0 = true := by kernel_rfl
theorem tr136 : rdE eW4 ts130 ts131 60 0 = true := by kernel_rfl
theorem tr145 : rdE eW5 ts139 ts140 60 0 = true := by kernel_rfl
theorem tr153 : rdE eW5 ts147 ts148 60 0 = true := by kernel_rfl
theorem tr163 : rdE eW4 ts157 ts158 60 0 = true := by kernel_rfl
theorem tr171 : rdE eW3 ts165 ts166 60 0 = true := by kernel_rfl
theorem tr179 : rdE eW2 ts173 ts174 60 0 = true := by kernel_rfl
theorem tr192 : rdE eW6 ts186 ts187 60 0 = true := by kernel_rfl
theorem tr200 : rdE eW4 ts194 ts195 60 0 = true := by kernel_rfl
theorem tr208 : rdE eW2 ts202 ts203 60 0 = true := by kernel_rfl
theorem tr129 : rdE eU ts124 ts125 60 1 = true := by kernel_rfl
theorem tr131 : rdE eU ts126 ts125 60 1 = true := by kernel_rfl
end X
end Go.Proofs.YtnkjnclpakfgnaaGreatDoor
