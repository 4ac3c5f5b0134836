/- SELECT at the rounds' ends, run in the kernel. No conditions. -/
import Derived.Test.YtnkjnclpakfgnaaGreatDoorZa
import Derived.Test.YtnkjnclpakfgnaaGreatDoorYu
namespace Go.Proofs.YtnkjnclpakfgnaaGreatDoor
namespace X
theorem qb3_0 : an (selB ts1 1 0) (an (selB ts6 2 1) (an (selB ts12 3 2) (an (selB ts16 3 0) (an (selB ts20 3 1) (an (selB ts9 3 0) (an (selB ts23 4 0) (an (selB ts27 4 0) (selB ts31 4 0)))))))) = true := by kernel_rfl
theorem tq1 : selB ts1 1 0 = true := (an_ok qb3_0).1
theorem tq6 : selB ts6 2 1 = true := (an_ok (an_ok qb3_0).2).1
theorem tq12 : selB ts12 3 2 = true := (an_ok (an_ok (an_ok qb3_0).2).2).1
theorem tq16 : selB ts16 3 0 = true := (an_ok (an_ok (an_ok (an_ok qb3_0).2).2).2).1
theorem tq20 : selB ts20 3 1 = true := (an_ok (an_ok (an_ok (an_ok (an_ok qb3_0).2).2).2).2).1
theorem tq9 : selB ts9 3 0 = true := (an_ok (an_ok (an_ok (an_ok (an_ok (an_ok qb3_0).2).2).2).2).2).1
theorem tq23 : selB ts23 4 0 = true := (an_ok (an_ok (an_ok (an_ok (an_ok (an_ok (an_ok qb3_0).2).2).2).2).2).2).1
theorem tq27 : selB ts27 4 0 = true := (an_ok (an_ok (an_ok (an_ok (an_ok (an_ok (an_ok (an_ok qb3_0).2).2).2).2).2).2).2).1
theorem tq31 : selB ts31 4 0 = true := (an_ok (an_ok (an_ok (an_ok (an_ok (an_ok (an_ok (an_ok qb3_0).2).2).2).2).2).2).2).2
theorem qb3_1 : an (selB ts35 4 0) (an (selB ts39 4 0) (an (selB ts45 5 0) (an (selB ts47 5 2) (an (selB ts51 5 1) (selB ts55 5 0))))) = true := by kernel_rfl
theorem tq35 : selB ts35 4 0 = true := (an_ok qb3_1).1
theorem tq39 : selB ts39 4 0 = true := (an_ok (an_ok qb3_1).2).1
theorem tq45 : selB ts45 5 0 = true := (an_ok (an_ok (an_ok qb3_1).2).2).1
theorem tq47 : selB ts47 5 2 = true := (an_ok (an_ok (an_ok (an_ok qb3_1).2).2).2).1
theorem tq51 : selB ts51 5 1 = true := (an_ok (an_ok (an_ok (an_ok (an_ok qb3_1).2).2).2).2).1
theorem tq55 : selB ts55 5 0 = true := (an_ok (an_ok (an_ok (an_ok (an_ok qb3_1).2).2).2).2).2
theorem qb3_2 : an (selB ts59 5 4) (an (selB ts63 5 3) (an (selB ts67 5 2) (an (selB ts74 6 2) (selB ts78 6 0)))) = true := by kernel_rfl
theorem tq59 : selB ts59 5 4 = true := (an_ok qb3_2).1
theorem tq63 : selB ts63 5 3 = true := (an_ok (an_ok qb3_2).2).1
theorem tq67 : selB ts67 5 2 = true := (an_ok (an_ok (an_ok qb3_2).2).2).1
theorem tq74 : selB ts74 6 2 = true := (an_ok (an_ok (an_ok (an_ok qb3_2).2).2).2).1
theorem tq78 : selB ts78 6 0 = true := (an_ok (an_ok (an_ok (an_ok qb3_2).2).2).2).2
theorem qb3_3 : an (selB ts82 6 4) (an (selB ts86 6 2) (an (selB ts90 6 0) (selB ts94 6 4))) = true := by kernel_rfl
theorem tq82 : selB ts82 6 4 = true := (an_ok qb3_3).1
theorem tq86 : selB ts86 6 2 = true := (an_ok (an_ok qb3_3).2).1
theorem tq90 : selB ts90 6 0 = true := (an_ok (an_ok (an_ok qb3_3).2).2).1
theorem tq94 : selB ts94 6 4 = true := (an_ok (an_ok (an_ok qb3_3).2).2).2
theorem qb3_4 : an (selB ts103 7 4) (an (selB ts107 7 1) (an (selB ts111 7 5) (selB ts115 7 2))) = true := by kernel_rfl
theorem tq103 : selB ts103 7 4 = true := (an_ok qb3_4).1
theorem tq107 : selB ts107 7 1 = true := (an_ok (an_ok qb3_4).2).1
theorem tq111 : selB ts111 7 5 = true := (an_ok (an_ok (an_ok qb3_4).2).2).1
theorem tq115 : selB ts115 7 2 = true := (an_ok (an_ok (an_ok qb3_4).2).2).2
theorem qb3_5 : an (selB ts119 7 6) (an (selB ts123 7 3) (an (selB ts126 8 0) (selB ts130 8 4))) = true := by kernel_rfl
theorem tq119 : selB ts119 7 6 = true := (an_ok qb3_5).1
theorem tq123 : selB ts123 7 3 = true := (an_ok (an_ok qb3_5).2).1
theorem tq126 : selB ts126 8 0 = true := (an_ok (an_ok (an_ok qb3_5).2).2).1
theorem tq130 : selB ts130 8 4 = true := (an_ok (an_ok (an_ok qb3_5).2).2).2
theorem qb3_6 : an (selB ts134 8 0) (an (selB ts138 8 4) (selB ts142 8 0)) = true := by kernel_rfl
theorem tq134 : selB ts134 8 0 = true := (an_ok qb3_6).1
theorem tq138 : selB ts138 8 4 = true := (an_ok (an_ok qb3_6).2).1
theorem tq142 : selB ts142 8 0 = true := (an_ok (an_ok qb3_6).2).2
theorem qb3_7 : an (selB ts146 8 4) (an (selB ts150 8 0) (selB ts153 9 0)) = true := by kernel_rfl
theorem tq146 : selB ts146 8 4 = true := (an_ok qb3_7).1
theorem tq150 : selB ts150 8 0 = true := (an_ok (an_ok qb3_7).2).1
theorem tq153 : selB ts153 9 0 = true := (an_ok (an_ok qb3_7).2).2
theorem qb3_8 : an (selB ts155 9 2) (an (selB ts159 9 6) (selB ts163 9 1)) = true := by kernel_rfl
theorem tq155 : selB ts155 9 2 = true := (an_ok qb3_8).1
theorem tq159 : selB ts159 9 6 = true := (an_ok (an_ok qb3_8).2).1
theorem tq163 : selB ts163 9 1 = true := (an_ok (an_ok qb3_8).2).2
theorem qb3_9 : an (selB ts167 9 5) (an (selB ts171 9 0) (selB ts175 9 4)) = true := by kernel_rfl
theorem tq167 : selB ts167 9 5 = true := (an_ok qb3_9).1
theorem tq171 : selB ts171 9 0 = true := (an_ok (an_ok qb3_9).2).1
theorem tq175 : selB ts175 9 4 = true := (an_ok (an_ok qb3_9).2).2
theorem qb3_10 : an (selB ts182 10 2) (an (selB ts186 10 6) (selB ts190 10 0)) = true := by kernel_rfl
theorem tq182 : selB ts182 10 2 = true := (an_ok qb3_10).1
theorem tq186 : selB ts186 10 6 = true := (an_ok (an_ok qb3_10).2).1
theorem tq190 : selB ts190 10 0 = true := (an_ok (an_ok qb3_10).2).2
theorem qb3_11 : an (selB ts194 10 4) (an (selB ts198 10 8) (selB ts202 10 2)) = true := by kernel_rfl
theorem tq194 : selB ts194 10 4 = true := (an_ok qb3_11).1
theorem tq198 : selB ts198 10 8 = true := (an_ok (an_ok qb3_11).2).1
theorem tq202 : selB ts202 10 2 = true := (an_ok (an_ok qb3_11).2).2
end X
end Go.Proofs.YtnkjnclpakfgnaaGreatDoor
