/- Rounds, run in the kernel. No conditions. -/
import Derived.Test.YtnkjnclpakfgnaaGreatDoorZa
namespace Go.Proofs.YtnkjnclpakfgnaaGreatDoor
namespace X
theorem tr1 : rdE eU ts1 ts0 60 1 = true := by kernel_rfl
theorem tr5 : rdE eU ts3 ts2 60 1 = true := by kernel_rfl
theorem tr23 : rdE eW0 ts19 ts20 60 0 = true := by kernel_rfl
theorem tr39 : rdE eW3 ts34 ts35 60 1 = true := by kernel_rfl
theorem tr50 : rdE eU ts45 ts44 60 1 = true := by kernel_rfl
theorem tr54 : rdE eW3 ts48 ts49 60 0 = true := by kernel_rfl
theorem tr62 : rdE eW1 ts56 ts57 60 0 = true := by kernel_rfl
theorem tr72 : rdE eW1 ts66 ts67 60 0 = true := by kernel_rfl
theorem tr76 : rdE eU ts71 ts72 60 1 = true := by kernel_rfl
theorem tr87 : rdE eW3 ts81 ts82 60 0 = true := by kernel_rfl
theorem tr97 : rdE eW1 ts91 ts92 60 0 = true := by kernel_rfl
theorem tr107 : rdE eW2 ts101 ts102 60 0 = true := by kernel_rfl
theorem tr115 : rdE eW3 ts109 ts110 60 0 = true := by kernel_rfl
theorem tr125 : rdE eW6 ts119 ts120 60 1 = true := by kernel_rfl
theorem tr131 : rdE eU ts126 ts125 60 1 = true := by kernel_rfl
theorem tr140 : rdE eW0 ts134 ts135 60 0 = true := by kernel_rfl
theorem tr150 : rdE eW2 ts144 ts145 60 0 = true := by kernel_rfl
theorem tr171 : rdE eW3 ts165 ts166 60 0 = true := by kernel_rfl
theorem tr181 : rdE eW4 ts175 ts176 60 0 = true := by kernel_rfl
theorem tr192 : rdE eW6 ts186 ts187 60 0 = true := by kernel_rfl
theorem tr202 : rdE eW6 ts196 ts197 60 0 = true := by kernel_rfl
end X
end Go.Proofs.YtnkjnclpakfgnaaGreatDoor
