/- Rounds, run in the kernel. No conditions. -/
import Derived.Test.YtnkjnclpakfgnaaGreatDoorZa
namespace Go.Proofs.YtnkjnclpakfgnaaGreatDoor
namespace X
theorem rb4_0 : an (rdE eW0 ts1 ts0 60 1) (an (rdE eW1 ts4 ts5 60 1) (an (rdE eW1 ts11 ts12 60 0) (rdE eW2 ts15 ts16 60 1))) = true := by kernel_rfl
theorem tr3 : rdE eW0 ts1 ts0 60 1 = true := (an_ok rb4_0).1
theorem tr7 : rdE eW1 ts4 ts5 60 1 = true := (an_ok (an_ok rb4_0).2).1
theorem tr15 : rdE eW1 ts11 ts12 60 0 = true := (an_ok (an_ok (an_ok rb4_0).2).2).1
theorem tr19 : rdE eW2 ts15 ts16 60 1 = true := (an_ok (an_ok (an_ok rb4_0).2).2).2
theorem rb4_1 : an (rdE eW3 ts30 ts31 60 1) (rdE eW3 ts38 ts39 60 1) = true := by kernel_rfl
theorem tr35 : rdE eW3 ts30 ts31 60 1 = true := (an_ok rb4_1).1
theorem tr43 : rdE eW3 ts38 ts39 60 1 = true := (an_ok rb4_1).2
theorem rb4_2 : an (rdE eW0 ts50 ts51 60 0) (rdE eW3 ts58 ts59 60 0) = true := by kernel_rfl
theorem tr56 : rdE eW0 ts50 ts51 60 0 = true := (an_ok rb4_2).1
theorem tr64 : rdE eW3 ts58 ts59 60 0 = true := (an_ok rb4_2).2
theorem rb4_3 : an (rdE eW1 ts66 ts67 60 0) (rdE eW1 ts73 ts74 60 0) = true := by kernel_rfl
theorem tr72 : rdE eW1 ts66 ts67 60 0 = true := (an_ok rb4_3).1
theorem tr79 : rdE eW1 ts73 ts74 60 0 = true := (an_ok rb4_3).2
theorem rb4_4 : an (rdE eW5 ts77 ts78 60 1) (rdE eW1 ts85 ts86 60 0) = true := by kernel_rfl
theorem tr83 : rdE eW5 ts77 ts78 60 1 = true := (an_ok rb4_4).1
theorem tr91 : rdE eW1 ts85 ts86 60 0 = true := (an_ok rb4_4).2
theorem tr99 : rdE eW3 ts93 ts94 60 0 = true := by kernel_rfl
theorem tr114 : rdE eW2 ts108 ts109 60 0 = true := by kernel_rfl
theorem tr122 : rdE eW3 ts116 ts117 60 0 = true := by kernel_rfl
theorem tr133 : rdE eW1 ts127 ts128 60 0 = true := by kernel_rfl
theorem tr140 : rdE eW0 ts134 ts135 60 0 = true := by kernel_rfl
theorem tr148 : rdE eW0 ts142 ts143 60 0 = true := by kernel_rfl
theorem tr26 : rdE eU ts22 ts23 60 1 = true := by kernel_rfl
theorem tr160 : rdE eW1 ts154 ts155 60 0 = true := by kernel_rfl
theorem tr168 : rdE eW0 ts162 ts163 60 0 = true := by kernel_rfl
theorem tr176 : rdE eW8 ts170 ts171 60 1 = true := by kernel_rfl
theorem tr194 : rdE eW8 ts188 ts189 60 0 = true := by kernel_rfl
theorem tr202 : rdE eW6 ts196 ts197 60 0 = true := by kernel_rfl
theorem tr48 : rdE eU ts43 ts44 60 1 = true := by kernel_rfl
theorem tr104 : rdE eU ts99 ts98 60 1 = true := by kernel_rfl
theorem tr157 : rdE eU ts152 ts153 60 1 = true := by kernel_rfl
end X
end Go.Proofs.YtnkjnclpakfgnaaGreatDoor
