/- SELECT at the rounds' ends, run in the kernel. No conditions. -/
import Derived.Test.YtnkjnclpakfgnaaGreatDoorZa
import Derived.Test.YtnkjnclpakfgnaaGreatDoorYu
namespace Go.Proofs.YtnkjnclpakfgnaaGreatDoor
namespace X
theorem qb0_0 : an (selB ts7 2 0) (an (selB ts10 3 0) (an (selB ts13 3 0) (an (selB ts17 3 1) (an (selB ts21 3 2) (an (selB ts24 4 1) (an (selB ts28 4 1) (an (selB ts32 4 1) (selB ts36 4 1)))))))) = true := by kernel_rfl
theorem tq7 : selB ts7 2 0 = true := (an_ok qb0_0).1
theorem tq10 : selB ts10 3 0 = true := (an_ok (an_ok qb0_0).2).1
theorem tq13 : selB ts13 3 0 = true := (an_ok (an_ok (an_ok qb0_0).2).2).1
theorem tq17 : selB ts17 3 1 = true := (an_ok (an_ok (an_ok (an_ok qb0_0).2).2).2).1
theorem tq21 : selB ts21 3 2 = true := (an_ok (an_ok (an_ok (an_ok (an_ok qb0_0).2).2).2).2).1
theorem tq24 : selB ts24 4 1 = true := (an_ok (an_ok (an_ok (an_ok (an_ok (an_ok qb0_0).2).2).2).2).2).1
theorem tq28 : selB ts28 4 1 = true := (an_ok (an_ok (an_ok (an_ok (an_ok (an_ok (an_ok qb0_0).2).2).2).2).2).2).1
theorem tq32 : selB ts32 4 1 = true := (an_ok (an_ok (an_ok (an_ok (an_ok (an_ok (an_ok (an_ok qb0_0).2).2).2).2).2).2).2).1
theorem tq36 : selB ts36 4 1 = true := (an_ok (an_ok (an_ok (an_ok (an_ok (an_ok (an_ok (an_ok qb0_0).2).2).2).2).2).2).2).2
theorem qb0_1 : an (selB ts40 4 1) (an (selB ts48 5 3) (an (selB ts52 5 2) (an (selB ts56 5 1) (an (selB ts60 5 0) (selB ts64 5 4))))) = true := by kernel_rfl
theorem tq40 : selB ts40 4 1 = true := (an_ok qb0_1).1
theorem tq48 : selB ts48 5 3 = true := (an_ok (an_ok qb0_1).2).1
theorem tq52 : selB ts52 5 2 = true := (an_ok (an_ok (an_ok qb0_1).2).2).1
theorem tq56 : selB ts56 5 1 = true := (an_ok (an_ok (an_ok (an_ok qb0_1).2).2).2).1
theorem tq60 : selB ts60 5 0 = true := (an_ok (an_ok (an_ok (an_ok (an_ok qb0_1).2).2).2).2).1
theorem tq64 : selB ts64 5 4 = true := (an_ok (an_ok (an_ok (an_ok (an_ok qb0_1).2).2).2).2).2
theorem qb0_2 : an (selB ts68 5 3) (an (selB ts71 6 0) (an (selB ts75 6 3) (an (selB ts79 6 1) (selB ts83 6 5)))) = true := by kernel_rfl
theorem tq68 : selB ts68 5 3 = true := (an_ok qb0_2).1
theorem tq71 : selB ts71 6 0 = true := (an_ok (an_ok qb0_2).2).1
theorem tq75 : selB ts75 6 3 = true := (an_ok (an_ok (an_ok qb0_2).2).2).1
theorem tq79 : selB ts79 6 1 = true := (an_ok (an_ok (an_ok (an_ok qb0_2).2).2).2).1
theorem tq83 : selB ts83 6 5 = true := (an_ok (an_ok (an_ok (an_ok qb0_2).2).2).2).2
theorem qb0_3 : an (selB ts87 6 3) (an (selB ts91 6 1) (an (selB ts95 6 5) (selB ts100 7 1))) = true := by kernel_rfl
theorem tq87 : selB ts87 6 3 = true := (an_ok qb0_3).1
theorem tq91 : selB ts91 6 1 = true := (an_ok (an_ok qb0_3).2).1
theorem tq95 : selB ts95 6 5 = true := (an_ok (an_ok (an_ok qb0_3).2).2).1
theorem tq100 : selB ts100 7 1 = true := (an_ok (an_ok (an_ok qb0_3).2).2).2
theorem qb0_4 : an (selB ts104 7 5) (an (selB ts108 7 2) (an (selB ts112 7 6) (selB ts116 7 3))) = true := by kernel_rfl
theorem tq104 : selB ts104 7 5 = true := (an_ok qb0_4).1
theorem tq108 : selB ts108 7 2 = true := (an_ok (an_ok qb0_4).2).1
theorem tq112 : selB ts112 7 6 = true := (an_ok (an_ok (an_ok qb0_4).2).2).1
theorem tq116 : selB ts116 7 3 = true := (an_ok (an_ok (an_ok qb0_4).2).2).2
theorem qb0_5 : an (selB ts120 7 0) (an (selB ts98 7 0) (an (selB ts127 8 1) (selB ts131 8 5))) = true := by kernel_rfl
theorem tq120 : selB ts120 7 0 = true := (an_ok qb0_5).1
theorem tq98 : selB ts98 7 0 = true := (an_ok (an_ok qb0_5).2).1
theorem tq127 : selB ts127 8 1 = true := (an_ok (an_ok (an_ok qb0_5).2).2).1
theorem tq131 : selB ts131 8 5 = true := (an_ok (an_ok (an_ok qb0_5).2).2).2
theorem qb0_6 : an (selB ts135 8 1) (an (selB ts139 8 5) (selB ts143 8 1)) = true := by kernel_rfl
theorem tq135 : selB ts135 8 1 = true := (an_ok qb0_6).1
theorem tq139 : selB ts139 8 5 = true := (an_ok (an_ok qb0_6).2).1
theorem tq143 : selB ts143 8 1 = true := (an_ok (an_ok qb0_6).2).2
theorem qb0_7 : an (selB ts147 8 5) (an (selB ts156 9 3) (selB ts160 9 7)) = true := by kernel_rfl
theorem tq147 : selB ts147 8 5 = true := (an_ok qb0_7).1
theorem tq156 : selB ts156 9 3 = true := (an_ok (an_ok qb0_7).2).1
theorem tq160 : selB ts160 9 7 = true := (an_ok (an_ok qb0_7).2).2
theorem qb0_8 : an (selB ts164 9 2) (an (selB ts168 9 6) (selB ts172 9 1)) = true := by kernel_rfl
theorem tq164 : selB ts164 9 2 = true := (an_ok qb0_8).1
theorem tq168 : selB ts168 9 6 = true := (an_ok (an_ok qb0_8).2).1
theorem tq172 : selB ts172 9 1 = true := (an_ok (an_ok qb0_8).2).2
theorem qb0_9 : an (selB ts176 9 5) (an (selB ts179 10 0) (selB ts183 10 3)) = true := by kernel_rfl
theorem tq176 : selB ts176 9 5 = true := (an_ok qb0_9).1
theorem tq179 : selB ts179 10 0 = true := (an_ok (an_ok qb0_9).2).1
theorem tq183 : selB ts183 10 3 = true := (an_ok (an_ok qb0_9).2).2
theorem qb0_10 : an (selB ts187 10 7) (an (selB ts191 10 1) (selB ts195 10 5)) = true := by kernel_rfl
theorem tq187 : selB ts187 10 7 = true := (an_ok qb0_10).1
theorem tq191 : selB ts191 10 1 = true := (an_ok (an_ok qb0_10).2).1
theorem tq195 : selB ts195 10 5 = true := (an_ok (an_ok qb0_10).2).2
theorem qb0_11 : an (selB ts199 10 9) (selB ts203 10 3) = true := by kernel_rfl
theorem tq199 : selB ts199 10 9 = true := (an_ok qb0_11).1
theorem tq203 : selB ts203 10 3 = true := (an_ok qb0_11).2
end X
end Go.Proofs.YtnkjnclpakfgnaaGreatDoor
