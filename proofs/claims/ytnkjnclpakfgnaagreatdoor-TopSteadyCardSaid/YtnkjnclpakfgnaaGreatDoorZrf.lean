/- Rounds, run in the kernel. No conditions. -/
import Derived.Test.YtnkjnclpakfgnaaGreatDoorZa
namespace Go.Proofs.YtnkjnclpakfgnaaGreatDoor
namespace X
theorem rb5_0 : an (rdE eW0 ts5 ts6 60 0) (an (rdE eW2 ts12 ts13 60 1) (an (rdE eW0 ts16 ts17 60 0) (rdE eW0 ts31 ts32 60 0))) = true := by kernel_rfl
theorem tr8 : rdE eW0 ts5 ts6 60 0 = true := (an_ok rb5_0).1
theorem tr16 : rdE eW2 ts12 ts13 60 1 = true := (an_ok (an_ok rb5_0).2).1
theorem tr20 : rdE eW0 ts16 ts17 60 0 = true := (an_ok (an_ok (an_ok rb5_0).2).2).1
theorem tr36 : rdE eW0 ts31 ts32 60 0 = true := (an_ok (an_ok (an_ok rb5_0).2).2).2
theorem rb5_1 : an (rdE eW0 ts39 ts40 60 0) (rdE eW1 ts51 ts52 60 0) = true := by kernel_rfl
theorem tr44 : rdE eW0 ts39 ts40 60 0 = true := (an_ok rb5_1).1
theorem tr57 : rdE eW1 ts51 ts52 60 0 = true := (an_ok rb5_1).2
theorem rb5_2 : an (rdE eW4 ts59 ts60 60 1) (rdE eW2 ts67 ts68 60 0) = true := by kernel_rfl
theorem tr65 : rdE eW4 ts59 ts60 60 1 = true := (an_ok rb5_2).1
theorem tr73 : rdE eW2 ts67 ts68 60 0 = true := (an_ok rb5_2).2
theorem rb5_3 : an (rdE eW4 ts94 ts95 60 0) (rdE eW2 ts74 ts75 60 0) = true := by kernel_rfl
theorem tr100 : rdE eW4 ts94 ts95 60 0 = true := (an_ok rb5_3).1
theorem tr80 : rdE eW2 ts74 ts75 60 0 = true := (an_ok rb5_3).2
theorem rb5_4 : an (rdE eW0 ts78 ts79 60 0) (rdE eW2 ts86 ts87 60 0) = true := by kernel_rfl
theorem tr84 : rdE eW0 ts78 ts79 60 0 = true := (an_ok rb5_4).1
theorem tr92 : rdE eW2 ts86 ts87 60 0 = true := (an_ok rb5_4).2
theorem tr115 : rdE eW3 ts109 ts110 60 0 = true := by kernel_rfl
theorem tr123 : rdE eW4 ts117 ts118 60 0 = true := by kernel_rfl
theorem tr141 : rdE eW1 ts135 ts136 60 0 = true := by kernel_rfl
theorem tr149 : rdE eW1 ts143 ts144 60 0 = true := by kernel_rfl
theorem tr27 : rdE eU ts23 ts22 60 1 = true := by kernel_rfl
theorem tr166 : rdE eW7 ts160 ts161 60 0 = true := by kernel_rfl
theorem tr174 : rdE eW6 ts168 ts169 60 0 = true := by kernel_rfl
theorem tr182 : rdE eW5 ts176 ts177 60 0 = true := by kernel_rfl
theorem tr187 : rdE eW1 ts181 ts182 60 0 = true := by kernel_rfl
theorem tr195 : rdE eW9 ts189 ts190 60 1 = true := by kernel_rfl
theorem tr203 : rdE eW7 ts197 ts198 60 0 = true := by kernel_rfl
theorem tr49 : rdE eU ts44 ts45 60 1 = true := by kernel_rfl
theorem tr75 : rdE eU ts70 ts71 60 1 = true := by kernel_rfl
theorem tr158 : rdE eU ts153 ts152 60 1 = true := by kernel_rfl
end X
end Go.Proofs.YtnkjnclpakfgnaaGreatDoor
