/- Rounds, run in the kernel. No conditions. -/
import Derived.Test.YtnkjnclpakfgnaaGreatDoorZa
namespace Go.Proofs.YtnkjnclpakfgnaaGreatDoor
namespace X
theorem rb2_0 : an (rdE eW0 ts7 ts8 60 0) (an (rdE eW2 ts18 ts19 60 1) (rdE eW0 ts22 ts24 60 0)) = true := by kernel_rfl
theorem tr10 : rdE eW0 ts7 ts8 60 0 = true := (an_ok rb2_0).1
theorem tr22 : rdE eW2 ts18 ts19 60 1 = true := (an_ok (an_ok rb2_0).2).1
theorem tr28 : rdE eW0 ts22 ts24 60 0 = true := (an_ok (an_ok rb2_0).2).2
theorem rb2_1 : an (rdE eW2 ts25 ts26 60 0) (an (rdE eW2 ts33 ts34 60 0) (rdE eW2 ts41 ts42 60 0)) = true := by kernel_rfl
theorem tr30 : rdE eW2 ts25 ts26 60 0 = true := (an_ok rb2_1).1
theorem tr38 : rdE eW2 ts33 ts34 60 0 = true := (an_ok (an_ok rb2_1).2).1
theorem tr46 : rdE eW2 ts41 ts42 60 0 = true := (an_ok (an_ok rb2_1).2).2
theorem rb2_2 : an (rdE eW3 ts53 ts54 60 0) (rdE eW1 ts61 ts62 60 0) = true := by kernel_rfl
theorem tr59 : rdE eW3 ts53 ts54 60 0 = true := (an_ok rb2_2).1
theorem tr67 : rdE eW1 ts61 ts62 60 0 = true := (an_ok rb2_2).2
theorem rb2_3 : an (rdE eW5 ts95 ts96 60 1) (rdE eW3 ts75 ts76 60 0) = true := by kernel_rfl
theorem tr101 : rdE eW5 ts95 ts96 60 1 = true := (an_ok rb2_3).1
theorem tr81 : rdE eW3 ts75 ts76 60 0 = true := (an_ok rb2_3).2
theorem rb2_4 : an (rdE eW1 ts79 ts80 60 0) (rdE eW3 ts87 ts88 60 0) = true := by kernel_rfl
theorem tr85 : rdE eW1 ts79 ts80 60 0 = true := (an_ok rb2_4).1
theorem tr93 : rdE eW3 ts87 ts88 60 0 = true := (an_ok rb2_4).2
theorem tr116 : rdE eW4 ts110 ts111 60 0 = true := by kernel_rfl
theorem tr124 : rdE eW5 ts118 ts119 60 0 = true := by kernel_rfl
theorem tr139 : rdE eW7 ts133 ts134 60 1 = true := by kernel_rfl
theorem tr147 : rdE eW7 ts141 ts142 60 1 = true := by kernel_rfl
theorem tr155 : rdE eW7 ts149 ts150 60 1 = true := by kernel_rfl
theorem tr159 : rdE eW0 ts151 ts154 60 0 = true := by kernel_rfl
theorem tr165 : rdE eW6 ts159 ts160 60 0 = true := by kernel_rfl
theorem tr173 : rdE eW5 ts167 ts168 60 0 = true := by kernel_rfl
theorem tr181 : rdE eW4 ts175 ts176 60 0 = true := by kernel_rfl
theorem tr186 : rdE eW0 ts178 ts181 60 0 = true := by kernel_rfl
theorem tr189 : rdE eW3 ts183 ts184 60 0 = true := by kernel_rfl
theorem tr197 : rdE eW1 ts191 ts192 60 0 = true := by kernel_rfl
theorem tr205 : rdE eW9 ts199 ts200 60 1 = true := by kernel_rfl
theorem tr185 : rdE eU ts180 ts179 60 1 = true := by kernel_rfl
end X
end Go.Proofs.YtnkjnclpakfgnaaGreatDoor
