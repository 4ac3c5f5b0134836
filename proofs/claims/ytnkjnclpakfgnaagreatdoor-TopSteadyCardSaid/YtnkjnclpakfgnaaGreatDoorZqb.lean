/- SELECT at the rounds' ends, run in the kernel. No conditions. -/
import Derived.Test.YtnkjnclpakfgnaaGreatDoorZa
import Derived.Test.YtnkjnclpakfgnaaGreatDoorYu
namespace Go.Proofs.YtnkjnclpakfgnaaGreatDoor
namespace X
theorem qb1_0 : an (selB ts2 2 0) (an (selB ts4 2 1) (an (selB ts8 2 1) (an (selB ts11 3 1) (an (selB ts14 3 1) (an (selB ts18 3 2) (an (selB ts25 4 2) (an (selB ts29 4 2) (selB ts33 4 2)))))))) = true := by kernel_rfl
theorem tq2 : selB ts2 2 0 = true := (an_ok qb1_0).1
theorem tq4 : selB ts4 2 1 = true := (an_ok (an_ok qb1_0).2).1
theorem tq8 : selB ts8 2 1 = true := (an_ok (an_ok (an_ok qb1_0).2).2).1
theorem tq11 : selB ts11 3 1 = true := (an_ok (an_ok (an_ok (an_ok qb1_0).2).2).2).1
theorem tq14 : selB ts14 3 1 = true := (an_ok (an_ok (an_ok (an_ok (an_ok qb1_0).2).2).2).2).1
theorem tq18 : selB ts18 3 2 = true := (an_ok (an_ok (an_ok (an_ok (an_ok (an_ok qb1_0).2).2).2).2).2).1
theorem tq25 : selB ts25 4 2 = true := (an_ok (an_ok (an_ok (an_ok (an_ok (an_ok (an_ok qb1_0).2).2).2).2).2).2).1
theorem tq29 : selB ts29 4 2 = true := (an_ok (an_ok (an_ok (an_ok (an_ok (an_ok (an_ok (an_ok qb1_0).2).2).2).2).2).2).2).1
theorem tq33 : selB ts33 4 2 = true := (an_ok (an_ok (an_ok (an_ok (an_ok (an_ok (an_ok (an_ok qb1_0).2).2).2).2).2).2).2).2
theorem qb1_1 : an (selB ts37 4 2) (an (selB ts41 4 2) (an (selB ts49 5 4) (an (selB ts53 5 3) (an (selB ts57 5 2) (selB ts61 5 1))))) = true := by kernel_rfl
theorem tq37 : selB ts37 4 2 = true := (an_ok qb1_1).1
theorem tq41 : selB ts41 4 2 = true := (an_ok (an_ok qb1_1).2).1
theorem tq49 : selB ts49 5 4 = true := (an_ok (an_ok (an_ok qb1_1).2).2).1
theorem tq53 : selB ts53 5 3 = true := (an_ok (an_ok (an_ok (an_ok qb1_1).2).2).2).1
theorem tq57 : selB ts57 5 2 = true := (an_ok (an_ok (an_ok (an_ok (an_ok qb1_1).2).2).2).2).1
theorem tq61 : selB ts61 5 1 = true := (an_ok (an_ok (an_ok (an_ok (an_ok qb1_1).2).2).2).2).2
theorem qb1_2 : an (selB ts65 5 0) (an (selB ts69 5 4) (an (selB ts72 6 0) (an (selB ts76 6 4) (selB ts80 6 2)))) = true := by kernel_rfl
theorem tq65 : selB ts65 5 0 = true := (an_ok qb1_2).1
theorem tq69 : selB ts69 5 4 = true := (an_ok (an_ok qb1_2).2).1
theorem tq72 : selB ts72 6 0 = true := (an_ok (an_ok (an_ok qb1_2).2).2).1
theorem tq76 : selB ts76 6 4 = true := (an_ok (an_ok (an_ok (an_ok qb1_2).2).2).2).1
theorem tq80 : selB ts80 6 2 = true := (an_ok (an_ok (an_ok (an_ok qb1_2).2).2).2).2
theorem qb1_3 : an (selB ts84 6 0) (an (selB ts88 6 4) (an (selB ts92 6 2) (selB ts96 6 0))) = true := by kernel_rfl
theorem tq84 : selB ts84 6 0 = true := (an_ok qb1_3).1
theorem tq88 : selB ts88 6 4 = true := (an_ok (an_ok qb1_3).2).1
theorem tq92 : selB ts92 6 2 = true := (an_ok (an_ok (an_ok qb1_3).2).2).1
theorem tq96 : selB ts96 6 0 = true := (an_ok (an_ok (an_ok qb1_3).2).2).2
theorem qb1_4 : an (selB ts101 7 2) (an (selB ts105 7 6) (an (selB ts109 7 3) (selB ts113 7 0))) = true := by kernel_rfl
theorem tq101 : selB ts101 7 2 = true := (an_ok qb1_4).1
theorem tq105 : selB ts105 7 6 = true := (an_ok (an_ok qb1_4).2).1
theorem tq109 : selB ts109 7 3 = true := (an_ok (an_ok (an_ok qb1_4).2).2).1
theorem tq113 : selB ts113 7 0 = true := (an_ok (an_ok (an_ok qb1_4).2).2).2
theorem qb1_5 : an (selB ts117 7 4) (an (selB ts121 7 1) (an (selB ts99 7 0) (selB ts128 8 2))) = true := by kernel_rfl
theorem tq117 : selB ts117 7 4 = true := (an_ok qb1_5).1
theorem tq121 : selB ts121 7 1 = true := (an_ok (an_ok qb1_5).2).1
theorem tq99 : selB ts99 7 0 = true := (an_ok (an_ok (an_ok qb1_5).2).2).1
theorem tq128 : selB ts128 8 2 = true := (an_ok (an_ok (an_ok qb1_5).2).2).2
theorem qb1_6 : an (selB ts132 8 6) (an (selB ts136 8 2) (selB ts140 8 6)) = true := by kernel_rfl
theorem tq132 : selB ts132 8 6 = true := (an_ok qb1_6).1
theorem tq136 : selB ts136 8 2 = true := (an_ok (an_ok qb1_6).2).1
theorem tq140 : selB ts140 8 6 = true := (an_ok (an_ok qb1_6).2).2
theorem qb1_7 : an (selB ts144 8 2) (an (selB ts148 8 6) (selB ts157 9 4)) = true := by kernel_rfl
theorem tq144 : selB ts144 8 2 = true := (an_ok qb1_7).1
theorem tq148 : selB ts148 8 6 = true := (an_ok (an_ok qb1_7).2).1
theorem tq157 : selB ts157 9 4 = true := (an_ok (an_ok qb1_7).2).2
theorem qb1_8 : an (selB ts161 9 8) (an (selB ts165 9 3) (selB ts169 9 7)) = true := by kernel_rfl
theorem tq161 : selB ts161 9 8 = true := (an_ok qb1_8).1
theorem tq165 : selB ts165 9 3 = true := (an_ok (an_ok qb1_8).2).1
theorem tq169 : selB ts169 9 7 = true := (an_ok (an_ok qb1_8).2).2
theorem qb1_9 : an (selB ts173 9 2) (an (selB ts177 9 6) (selB ts180 10 0)) = true := by kernel_rfl
theorem tq173 : selB ts173 9 2 = true := (an_ok qb1_9).1
theorem tq177 : selB ts177 9 6 = true := (an_ok (an_ok qb1_9).2).1
theorem tq180 : selB ts180 10 0 = true := (an_ok (an_ok qb1_9).2).2
theorem qb1_10 : an (selB ts184 10 4) (an (selB ts188 10 8) (selB ts192 10 2)) = true := by kernel_rfl
theorem tq184 : selB ts184 10 4 = true := (an_ok qb1_10).1
theorem tq188 : selB ts188 10 8 = true := (an_ok (an_ok qb1_10).2).1
theorem tq192 : selB ts192 10 2 = true := (an_ok (an_ok qb1_10).2).2
theorem qb1_11 : an (selB ts196 10 6) (an (selB ts200 10 0) (selB ts204 10 4)) = true := by kernel_rfl
theorem tq196 : selB ts196 10 6 = true := (an_ok qb1_11).1
theorem tq200 : selB ts200 10 0 = true := (an_ok (an_ok qb1_11).2).1
theorem tq204 : selB ts204 10 4 = true := (an_ok (an_ok qb1_11).2).2
end X
end Go.Proofs.YtnkjnclpakfgnaaGreatDoor
