/- Rounds, run in the kernel. No conditions. -/
import Derived.Test.YtnkjnclpakfgnaaGreatDoorZa
namespace Go.Proofs.YtnkjnclpakfgnaaGreatDoor
namespace X
theorem rb7_0 : an (rdE eW1 ts6 ts7 60 1) (an (rdE eW0 ts13 ts14 60 0) (an (rdE eW1 ts17 ts18 60 0) (rdE eW1 ts32 ts33 60 0))) = true := by kernel_rfl
theorem tr9 : rdE eW1 ts6 ts7 60 1 = true := (an_ok rb7_0).1
theorem tr17 : rdE eW0 ts13 ts14 60 0 = true := (an_ok (an_ok rb7_0).2).1
theorem tr21 : rdE eW1 ts17 ts18 60 0 = true := (an_ok (an_ok (an_ok rb7_0).2).2).1
theorem tr37 : rdE eW1 ts32 ts33 60 0 = true := (an_ok (an_ok (an_ok rb7_0).2).2).2
theorem rb7_1 : an (rdE eW1 ts40 ts41 60 0) (rdE eW2 ts52 ts53 60 0) = true := by kernel_rfl
theorem tr45 : rdE eW1 ts40 ts41 60 0 = true := (an_ok rb7_1).1
theorem tr58 : rdE eW2 ts52 ts53 60 0 = true := (an_ok rb7_1).2
theorem rb7_2 : an (rdE eW0 ts60 ts61 60 0) (rdE eW3 ts68 ts69 60 0) = true := by kernel_rfl
theorem tr66 : rdE eW0 ts60 ts61 60 0 = true := (an_ok rb7_2).1
theorem tr74 : rdE eW3 ts68 ts69 60 0 = true := (an_ok rb7_2).2
theorem rb7_3 : an (rdE eU ts9 ts10 60 1) (rdE eW2 ts80 ts81 60 0) = true := by kernel_rfl
theorem tr12 : rdE eU ts9 ts10 60 1 = true := (an_ok rb7_3).1
theorem tr86 : rdE eW2 ts80 ts81 60 0 = true := (an_ok rb7_3).2
theorem tr94 : rdE eW4 ts88 ts89 60 0 = true := by kernel_rfl
theorem tr109 : rdE eW4 ts103 ts104 60 0 = true := by kernel_rfl
theorem tr117 : rdE eW5 ts111 ts112 60 0 = true := by kernel_rfl
theorem tr125 : rdE eW6 ts119 ts120 60 1 = true := by kernel_rfl
theorem tr132 : rdE eW0 ts124 ts127 60 0 = true := by kernel_rfl
theorem tr138 : rdE eW6 ts132 ts133 60 0 = true := by kernel_rfl
theorem tr146 : rdE eW6 ts140 ts141 60 0 = true := by kernel_rfl
theorem tr154 : rdE eW6 ts148 ts149 60 0 = true := by kernel_rfl
theorem tr167 : rdE eW8 ts161 ts162 60 1 = true := by kernel_rfl
theorem tr175 : rdE eW7 ts169 ts170 60 0 = true := by kernel_rfl
theorem tr188 : rdE eW2 ts182 ts183 60 0 = true := by kernel_rfl
theorem tr196 : rdE eW0 ts190 ts191 60 0 = true := by kernel_rfl
theorem tr204 : rdE eW8 ts198 ts199 60 0 = true := by kernel_rfl
theorem tr50 : rdE eU ts45 ts44 60 1 = true := by kernel_rfl
theorem tr102 : rdE eU ts97 ts98 60 1 = true := by kernel_rfl
theorem tr130 : rdE eU ts125 ts126 60 1 = true := by kernel_rfl
end X
end Go.Proofs.YtnkjnclpakfgnaaGreatDoor
