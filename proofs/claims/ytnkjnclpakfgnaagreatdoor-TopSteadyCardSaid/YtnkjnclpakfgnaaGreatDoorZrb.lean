/- Rounds, run in the kernel. No conditions. -/
import Derived.Test.YtnkjnclpakfgnaaGreatDoorZa
namespace Go.Proofs.YtnkjnclpakfgnaaGreatDoor
namespace X
theorem rb1_0 : an (rdE eU ts0 ts1 60 1) (an (rdE eW1 ts20 ts21 60 0) (rdE eW0 ts27 ts28 60 0)) = true := by kernel_rfl
theorem tr0 : rdE eU ts0 ts1 60 1 = true := (an_ok rb1_0).1
theorem tr24 : rdE eW1 ts20 ts21 60 0 = true := (an_ok (an_ok rb1_0).2).1
theorem tr32 : rdE eW0 ts27 ts28 60 0 = true := (an_ok (an_ok rb1_0).2).2
theorem rb1_1 : an (rdE eU ts2 ts3 60 1) (rdE eW0 ts35 ts36 60 0) = true := by kernel_rfl
theorem tr4 : rdE eU ts2 ts3 60 1 = true := (an_ok rb1_1).1
theorem tr40 : rdE eW0 ts35 ts36 60 0 = true := (an_ok rb1_1).2
theorem rb1_2 : an (rdE eW0 ts43 ts46 60 0) (rdE eW2 ts47 ts48 60 0) = true := by kernel_rfl
theorem tr51 : rdE eW0 ts43 ts46 60 0 = true := (an_ok rb1_2).1
theorem tr53 : rdE eW2 ts47 ts48 60 0 = true := (an_ok rb1_2).2
theorem rb1_3 : an (rdE eW0 ts55 ts56 60 0) (rdE eW3 ts63 ts64 60 0) = true := by kernel_rfl
theorem tr61 : rdE eW0 ts55 ts56 60 0 = true := (an_ok rb1_3).1
theorem tr69 : rdE eW3 ts63 ts64 60 0 = true := (an_ok rb1_3).2
theorem rb1_4 : an (rdE eW4 ts82 ts83 60 0) (rdE eW0 ts90 ts91 60 0) = true := by kernel_rfl
theorem tr88 : rdE eW4 ts82 ts83 60 0 = true := (an_ok rb1_4).1
theorem tr96 : rdE eW0 ts90 ts91 60 0 = true := (an_ok rb1_4).2
theorem tr106 : rdE eW1 ts100 ts101 60 0 = true := by kernel_rfl
theorem tr111 : rdE eW6 ts105 ts106 60 1 = true := by kernel_rfl
theorem tr119 : rdE eW0 ts113 ts114 60 0 = true := by kernel_rfl
theorem tr127 : rdE eW1 ts121 ts122 60 0 = true := by kernel_rfl
theorem tr135 : rdE eW3 ts129 ts130 60 0 = true := by kernel_rfl
theorem tr143 : rdE eW3 ts137 ts138 60 0 = true := by kernel_rfl
theorem tr151 : rdE eW3 ts145 ts146 60 0 = true := by kernel_rfl
theorem tr162 : rdE eW3 ts156 ts157 60 0 = true := by kernel_rfl
theorem tr170 : rdE eW2 ts164 ts165 60 0 = true := by kernel_rfl
theorem tr178 : rdE eW1 ts172 ts173 60 0 = true := by kernel_rfl
theorem tr191 : rdE eW5 ts185 ts186 60 0 = true := by kernel_rfl
theorem tr199 : rdE eW3 ts193 ts194 60 0 = true := by kernel_rfl
theorem tr207 : rdE eW1 ts201 ts202 60 0 = true := by kernel_rfl
theorem tr77 : rdE eU ts72 ts71 60 1 = true := by kernel_rfl
theorem tr184 : rdE eU ts179 ts180 60 1 = true := by kernel_rfl
end X
end Go.Proofs.YtnkjnclpakfgnaaGreatDoor
