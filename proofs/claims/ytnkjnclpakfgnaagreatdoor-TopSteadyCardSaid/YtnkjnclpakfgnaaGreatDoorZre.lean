/- Rounds, run in the kernel. No conditions. -/
import Derived.Test.YtnkjnclpakfgnaaGreatDoorZa
namespace Go.Proofs.YtnkjnclpakfgnaaGreatDoor
namespace X
theorem tr7 : rdE eW1 ts4 ts5 60 1 = true := by kernel_rfl
theorem tr12 : rdE eU ts9 ts10 60 1 = true := by kernel_rfl
theorem tr15 : rdE eW1 ts11 ts12 60 0 = true := by kernel_rfl
theorem tr17 : rdE eW0 ts13 ts14 60 0 = true := by kernel_rfl
theorem tr27 : rdE eU ts23 ts22 60 1 = true := by kernel_rfl
theorem tr41 : rdE eW1 ts36 ts37 60 0 = true := by kernel_rfl
theorem tr64 : rdE eW3 ts58 ts59 60 0 = true := by kernel_rfl
theorem tr74 : rdE eW3 ts68 ts69 60 0 = true := by kernel_rfl
theorem tr78 : rdE eW0 ts70 ts73 60 0 = true := by kernel_rfl
theorem tr82 : rdE eW4 ts76 ts77 60 0 = true := by kernel_rfl
theorem tr92 : rdE eW2 ts86 ts87 60 0 = true := by kernel_rfl
theorem tr119 : rdE eW0 ts113 ts114 60 0 = true := by kernel_rfl
theorem tr137 : rdE eW5 ts131 ts132 60 0 = true := by kernel_rfl
theorem tr147 : rdE eW7 ts141 ts142 60 1 = true := by kernel_rfl
theorem tr157 : rdE eU ts152 ts153 60 1 = true := by kernel_rfl
theorem tr160 : rdE eW1 ts154 ts155 60 0 = true := by kernel_rfl
theorem tr168 : rdE eW0 ts162 ts163 60 0 = true := by kernel_rfl
theorem tr178 : rdE eW1 ts172 ts173 60 0 = true := by kernel_rfl
theorem tr186 : rdE eW0 ts178 ts181 60 0 = true := by kernel_rfl
theorem tr194 : rdE eW8 ts188 ts189 60 0 = true := by kernel_rfl
theorem tr204 : rdE eW8 ts198 ts199 60 0 = true := by kernel_rfl
end X
end Go.Proofs.YtnkjnclpakfgnaaGreatDoor
