/- Rounds, run in the kernel. No conditions. -/
import Derived.Test.YtnkjnclpakfgnaaGreatDoorZa
namespace Go.Proofs.YtnkjnclpakfgnaaGreatDoor
namespace X
theorem rb3_0 : an (rdE eU ts1 ts0 60 1) (an (rdE eW2 ts21 ts9 60 1) (rdE eW1 ts28 ts29 60 0)) = true := by kernel_rfl
theorem tr1 : rdE eU ts1 ts0 60 1 = true := (an_ok rb3_0).1
theorem tr25 : rdE eW2 ts21 ts9 60 1 = true := (an_ok (an_ok rb3_0).2).1
theorem tr33 : rdE eW1 ts28 ts29 60 0 = true := (an_ok (an_ok rb3_0).2).2
theorem rb3_1 : an (rdE eW1 ts36 ts37 60 0) (rdE eU ts3 ts2 60 1) = true := by kernel_rfl
theorem tr41 : rdE eW1 ts36 ts37 60 0 = true := (an_ok rb3_1).1
theorem tr5 : rdE eU ts3 ts2 60 1 = true := (an_ok rb3_1).2
theorem rb3_2 : an (rdE eW1 ts46 ts47 60 0) (rdE eW3 ts48 ts49 60 0) = true := by kernel_rfl
theorem tr52 : rdE eW1 ts46 ts47 60 0 = true := (an_ok rb3_2).1
theorem tr54 : rdE eW3 ts48 ts49 60 0 = true := (an_ok rb3_2).2
theorem rb3_3 : an (rdE eW1 ts56 ts57 60 0) (rdE eW4 ts64 ts65 60 1) = true := by kernel_rfl
theorem tr62 : rdE eW1 ts56 ts57 60 0 = true := (an_ok rb3_3).1
theorem tr70 : rdE eW4 ts64 ts65 60 1 = true := (an_ok rb3_3).2
theorem rb3_4 : an (rdE eW5 ts83 ts84 60 1) (rdE eW1 ts91 ts92 60 0) = true := by kernel_rfl
theorem tr89 : rdE eW5 ts83 ts84 60 1 = true := (an_ok rb3_4).1
theorem tr97 : rdE eW1 ts91 ts92 60 0 = true := (an_ok rb3_4).2
theorem tr107 : rdE eW2 ts101 ts102 60 0 = true := by kernel_rfl
theorem tr112 : rdE eW0 ts106 ts107 60 0 = true := by kernel_rfl
theorem tr120 : rdE eW1 ts114 ts115 60 0 = true := by kernel_rfl
theorem tr128 : rdE eW2 ts122 ts123 60 0 = true := by kernel_rfl
theorem tr137 : rdE eW5 ts131 ts132 60 0 = true := by kernel_rfl
theorem tr144 : rdE eW4 ts138 ts139 60 0 = true := by kernel_rfl
theorem tr152 : rdE eW4 ts146 ts147 60 0 = true := by kernel_rfl
theorem tr164 : rdE eW5 ts158 ts159 60 0 = true := by kernel_rfl
theorem tr172 : rdE eW4 ts166 ts167 60 0 = true := by kernel_rfl
theorem tr180 : rdE eW3 ts174 ts175 60 0 = true := by kernel_rfl
theorem tr193 : rdE eW7 ts187 ts188 60 0 = true := by kernel_rfl
theorem tr201 : rdE eW5 ts195 ts196 60 0 = true := by kernel_rfl
theorem tr209 : rdE eW3 ts203 ts204 60 0 = true := by kernel_rfl
theorem tr103 : rdE eU ts98 ts99 60 1 = true := by kernel_rfl
theorem tr156 : rdE eU ts151 ts152 60 1 = true := by kernel_rfl
end X
end Go.Proofs.YtnkjnclpakfgnaaGreatDoor
