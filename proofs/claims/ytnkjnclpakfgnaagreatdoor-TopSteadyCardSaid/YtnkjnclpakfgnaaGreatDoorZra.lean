/- Rounds, run in the kernel. No conditions. -/
import Derived.Test.YtnkjnclpakfgnaaGreatDoorZa
namespace Go.Proofs.YtnkjnclpakfgnaaGreatDoor
namespace X
theorem rb0_0 : an (rdE eW1 ts8 ts2 60 1) (an (rdE eW0 ts19 ts20 60 0) (rdE eW1 ts24 ts25 60 0)) = true := by kernel_rfl
theorem tr11 : rdE eW1 ts8 ts2 60 1 = true := (an_ok rb0_0).1
theorem tr23 : rdE eW0 ts19 ts20 60 0 = true := (an_ok (an_ok rb0_0).2).1
theorem tr29 : rdE eW1 ts24 ts25 60 0 = true := (an_ok (an_ok rb0_0).2).2
theorem rb0_1 : an (rdE eW3 ts26 ts27 60 1) (an (rdE eW3 ts34 ts35 60 1) (rdE eW3 ts42 ts22 60 1)) = true := by kernel_rfl
theorem tr31 : rdE eW3 ts26 ts27 60 1 = true := (an_ok rb0_1).1
theorem tr39 : rdE eW3 ts34 ts35 60 1 = true := (an_ok (an_ok rb0_1).2).1
theorem tr47 : rdE eW3 ts42 ts22 60 1 = true := (an_ok (an_ok rb0_1).2).2
theorem rb0_2 : an (rdE eW4 ts54 ts55 60 1) (rdE eW2 ts62 ts63 60 0) = true := by kernel_rfl
theorem tr60 : rdE eW4 ts54 ts55 60 1 = true := (an_ok rb0_2).1
theorem tr68 : rdE eW2 ts62 ts63 60 0 = true := (an_ok rb0_2).2
theorem rb0_3 : an (rdE eU ts10 ts9 60 1) (rdE eW3 ts81 ts82 60 0) = true := by kernel_rfl
theorem tr13 : rdE eU ts10 ts9 60 1 = true := (an_ok rb0_3).1
theorem tr87 : rdE eW3 ts81 ts82 60 0 = true := (an_ok rb0_3).2
theorem tr95 : rdE eW5 ts89 ts90 60 1 = true := by kernel_rfl
theorem tr105 : rdE eW0 ts97 ts100 60 0 = true := by kernel_rfl
theorem tr110 : rdE eW5 ts104 ts105 60 0 = true := by kernel_rfl
theorem tr118 : rdE eW6 ts112 ts113 60 1 = true := by kernel_rfl
theorem tr126 : rdE eW0 ts120 ts121 60 0 = true := by kernel_rfl
theorem tr134 : rdE eW2 ts128 ts129 60 0 = true := by kernel_rfl
theorem tr142 : rdE eW2 ts136 ts137 60 0 = true := by kernel_rfl
theorem tr150 : rdE eW2 ts144 ts145 60 0 = true := by kernel_rfl
theorem tr161 : rdE eW2 ts155 ts156 60 0 = true := by kernel_rfl
theorem tr169 : rdE eW1 ts163 ts164 60 0 = true := by kernel_rfl
theorem tr177 : rdE eW0 ts171 ts172 60 0 = true := by kernel_rfl
theorem tr190 : rdE eW4 ts184 ts185 60 0 = true := by kernel_rfl
theorem tr198 : rdE eW2 ts192 ts193 60 0 = true := by kernel_rfl
theorem tr206 : rdE eW0 ts200 ts201 60 0 = true := by kernel_rfl
theorem tr76 : rdE eU ts71 ts72 60 1 = true := by kernel_rfl
theorem tr183 : rdE eU ts178 ts179 60 1 = true := by kernel_rfl
end X
end Go.Proofs.YtnkjnclpakfgnaaGreatDoor
