/- Starts: New, Open, the table, the index, rows: run in the kernel. No conditions. -/
import Derived.Test.YtnkjnclpakfgnaaGreatDoorMc7
import Derived.Test.YtnkjnclpakfgnaaGreatDoorZe
namespace Go.Proofs.YtnkjnclpakfgnaaGreatDoor
namespace X
noncomputable def c0 (p : Nat) : Option St := some ⟨(3, .cells 568 strs) :: [(8, (.cells 74 [(.ptr 9 0), (.ptr 10 0), (.ptr 11 0), .nilp, .nilp, .nilp, .nilp, .nilp])), (9, (.cells 115 [(.ptr 12 0), (.ptr 13 0), (.ptr 14 0), (.mp 15), (.mp 16), (.mp 17), (.int .u64 (.ofNat 0))])), (10, (.cells 161 [(.ptr 9 0), (.bool false), .nils, (.int .i64 (.ofNat 0))])), (11, (.cells 105 [(.int .i64 (.ofNat 0)), (.int .u64 (.ofNat 0)), (.bool false), .any, .any, .any, .any, .any, .any, .any])), (13, (.cells 203 [.nils, .nils, (.int .u64 (.ofNat 0))])), (15, (.map [])), (16, (.map [])), (17, (.map []))], 18, ⟨⟨14, p, 0, []⟩, ⟨12, 1, false, 0, 0, 0, [], []⟩, [], [], [], 0, [], []⟩⟩
noncomputable def c1 (p : Nat) : Option St := some ⟨(3, .cells 568 strs) :: [(8, (.cells 74 [(.ptr 9 0), (.ptr 10 0), (.ptr 11 0), .nilp, .nilp, .nilp, .nilp, .nilp])), (9, (.cells 115 [(.ptr 12 0), (.ptr 13 0), (.ptr 14 0), (.mp 15), (.mp 16), (.mp 17), (.int .u64 (.ofNat 0))])), (10, (.cells 161 [(.ptr 9 0), (.bool false), .nils, (.int .i64 (.ofNat 0))])), (11, (.cells 105 [(.int .i64 (.ofNat 0)), (.int .u64 (.ofNat 0)), (.bool false), .any, .any, .any, .any, .any, .any, .any])), (13, (.cells 203 [(.sg 18 0 1 1), .nils, (.int .u64 (.ofNat 1))])), (15, (.map [((.int .u64 (.ofNat 1)), (.ptr 19 0))])), (16, (.map [])), (17, (.map [])), (18, (.grow 204 1 [(.ptr 20 0)])), (20, (.cells 284 [(.int .u64 (.ofNat 1)), (.str [116]), (.sym .u64 0), (.int .u64 (.ofNat 0)), (.sg 21 0 2 2)])), (21, (.grow 235 2 [(.str [97]), (.int .u8 (.ofNat 1)), (.str [98]), (.int .u8 (.ofNat 1))]))], 22, ⟨⟨14, p, 19, []⟩, ⟨12, 1, false, 0, 0, 0, [0], []⟩, [], [], [], 1, [], []⟩⟩
theorem new1 : newSB 2 (c0 2) = true := by kernel_rfl
theorem new2 : newSB 4 (c0 3) = true := by kernel_rfl
theorem new3 : newSB 6 (c0 3) = true := by kernel_rfl
theorem new4 : newSB 8 (c0 3) = true := by kernel_rfl
theorem new5 : newSB 10 (c0 3) = true := by kernel_rfl
theorem new6 : newSB 12 (c0 3) = true := by kernel_rfl
theorem new7 : newSB 14 (c0 3) = true := by kernel_rfl
theorem new8 : newSB 16 (c0 3) = true := by kernel_rfl
theorem new9 : newSB 18 (c0 3) = true := by kernel_rfl
theorem new10 : newSB 20 (c0 3) = true := by kernel_rfl
theorem tab2 : stepB eT (c0 2) (c1 2) = true := by kernel_rfl
theorem idx2 : stepB eI (c1 2) (stS 0 2 0 false [] [] []) = true := by kernel_rfl
theorem ins2_0 : stepB eN0 (stS 0 2 0 false [] [] []) (stS 1 1 0 false [[1]] [(0, 0)] []) = true := by kernel_rfl
theorem tab3 : stepB eT (c0 3) (c1 3) = true := by kernel_rfl
theorem idx3 : stepB eI (c1 3) (stS 0 3 0 false [] [] []) = true := by kernel_rfl
theorem ins3_0 : stepB eN0 (stS 0 3 0 false [] [] []) (stS 1 2 0 false [[1]] [(0, 0)] []) = true := by kernel_rfl
theorem ins3_1 : stepB eN1 (stS 1 2 0 false [[1]] [(0, 0)] []) (stS 2 2 0 false [[1, 2]] [(0, 0), (0, 1)] []) = true := by kernel_rfl
theorem ins3_2 : stepB eN2 (stS 2 2 0 false [[1, 2]] [(0, 0), (0, 1)] []) (stS 3 2 0 false [[1, 2, 3]] [(0, 0), (0, 1), (0, 2)] []) = true := by kernel_rfl
theorem ins3_3 : stepB eN3 (stS 3 2 0 false [[1, 2, 3]] [(0, 0), (0, 1), (0, 2)] []) (stS 4 2 0 false [[1, 2, 3, 4]] [(0, 0), (0, 1), (0, 2), (0, 3)] []) = true := by kernel_rfl
theorem ins3_4 : stepB eN4 (stS 4 2 0 false [[1, 2, 3, 4]] [(0, 0), (0, 1), (0, 2), (0, 3)] []) (stS 5 2 0 false [[1, 2, 3, 4, 5]] [(0, 0), (0, 1), (0, 2), (0, 3), (0, 4)] []) = true := by kernel_rfl
theorem ins3_5 : stepB eN5 (stS 5 2 0 false [[1, 2, 3, 4, 5]] [(0, 0), (0, 1), (0, 2), (0, 3), (0, 4)] []) (stS 6 2 0 false [[1, 2, 3, 4, 5, 6]] [(0, 0), (0, 1), (0, 2), (0, 3), (0, 4), (0, 5)] []) = true := by kernel_rfl
theorem ins3_6 : stepB eN6 (stS 6 2 0 false [[1, 2, 3, 4, 5, 6]] [(0, 0), (0, 1), (0, 2), (0, 3), (0, 4), (0, 5)] []) (stS 7 2 0 false [[1, 2, 3, 4, 5, 6, 7]] [(0, 0), (0, 1), (0, 2), (0, 3), (0, 4), (0, 5), (0, 6)] []) = true := by kernel_rfl
theorem ins3_7 : stepB eN7 (stS 7 2 0 false [[1, 2, 3, 4, 5, 6, 7]] [(0, 0), (0, 1), (0, 2), (0, 3), (0, 4), (0, 5), (0, 6)] []) (stS 8 2 0 false [[1, 2, 3, 4, 5, 6, 7, 8]] [(0, 0), (0, 1), (0, 2), (0, 3), (0, 4), (0, 5), (0, 6), (0, 7)] []) = true := by kernel_rfl
theorem ins3_8 : stepB eN8 (stS 8 2 0 false [[1, 2, 3, 4, 5, 6, 7, 8]] [(0, 0), (0, 1), (0, 2), (0, 3), (0, 4), (0, 5), (0, 6), (0, 7)] []) (stS 9 2 0 true [[1, 2, 3, 4, 5, 6, 7, 8, 9]] [(0, 0), (0, 1), (0, 2), (0, 3)] [(0, 4), (0, 5), (0, 6), (0, 7), (0, 8)]) = true := by kernel_rfl
theorem ins3_9 : stepB eN9 (stS 9 2 0 true [[1, 2, 3, 4, 5, 6, 7, 8, 9]] [(0, 0), (0, 1), (0, 2), (0, 3)] [(0, 4), (0, 5), (0, 6), (0, 7), (0, 8)]) (stS 10 1 0 true [[1, 2, 3, 4, 5, 6, 7, 8, 9], [10]] [(0, 0), (0, 1), (0, 2), (0, 3)] [(0, 4), (0, 5), (0, 6), (0, 7), (0, 8), (1, 0)]) = true := by kernel_rfl
theorem re1 : reB (stS 1 1 0 false [[1]] [(0, 0)] []) (stS 1 1 1 false [[1]] [(0, 0)] []) = true := by kernel_rfl
theorem re2 : reB (stS 2 2 0 false [[1, 2]] [(0, 0), (0, 1)] []) (stS 2 2 1 false [[1, 2]] [(0, 0), (0, 1)] []) = true := by kernel_rfl
theorem re3 : reB (stS 3 2 0 false [[1, 2, 3]] [(0, 0), (0, 1), (0, 2)] []) (stS 3 2 1 false [[1, 2, 3]] [(0, 0), (0, 1), (0, 2)] []) = true := by kernel_rfl
theorem re4 : reB (stS 4 2 0 false [[1, 2, 3, 4]] [(0, 0), (0, 1), (0, 2), (0, 3)] []) (stS 4 2 1 false [[1, 2, 3, 4]] [(0, 0), (0, 1), (0, 2), (0, 3)] []) = true := by kernel_rfl
theorem re5 : reB (stS 5 2 0 false [[1, 2, 3, 4, 5]] [(0, 0), (0, 1), (0, 2), (0, 3), (0, 4)] []) (stS 5 2 1 false [[1, 2, 3, 4, 5]] [(0, 0), (0, 1), (0, 2), (0, 3), (0, 4)] []) = true := by kernel_rfl
theorem re6 : reB (stS 6 2 0 false [[1, 2, 3, 4, 5, 6]] [(0, 0), (0, 1), (0, 2), (0, 3), (0, 4), (0, 5)] []) (stS 6 2 1 false [[1, 2, 3, 4, 5, 6]] [(0, 0), (0, 1), (0, 2), (0, 3), (0, 4), (0, 5)] []) = true := by kernel_rfl
theorem re7 : reB (stS 7 2 0 false [[1, 2, 3, 4, 5, 6, 7]] [(0, 0), (0, 1), (0, 2), (0, 3), (0, 4), (0, 5), (0, 6)] []) (stS 7 2 1 false [[1, 2, 3, 4, 5, 6, 7]] [(0, 0), (0, 1), (0, 2), (0, 3), (0, 4), (0, 5), (0, 6)] []) = true := by kernel_rfl
theorem re8 : reB (stS 8 2 0 false [[1, 2, 3, 4, 5, 6, 7, 8]] [(0, 0), (0, 1), (0, 2), (0, 3), (0, 4), (0, 5), (0, 6), (0, 7)] []) (stS 8 2 1 false [[1, 2, 3, 4, 5, 6, 7, 8]] [(0, 0), (0, 1), (0, 2), (0, 3), (0, 4), (0, 5), (0, 6), (0, 7)] []) = true := by kernel_rfl
theorem re9 : reB (stS 9 2 0 true [[1, 2, 3, 4, 5, 6, 7, 8, 9]] [(0, 0), (0, 1), (0, 2), (0, 3)] [(0, 4), (0, 5), (0, 6), (0, 7), (0, 8)]) (stS 9 2 1 true [[1, 2, 3, 4, 5, 6, 7, 8, 9]] [(0, 0), (0, 1), (0, 2), (0, 3)] [(0, 4), (0, 5), (0, 6), (0, 7), (0, 8)]) = true := by kernel_rfl
theorem re10 : reB (stS 10 1 0 true [[1, 2, 3, 4, 5, 6, 7, 8, 9], [10]] [(0, 0), (0, 1), (0, 2), (0, 3)] [(0, 4), (0, 5), (0, 6), (0, 7), (0, 8), (1, 0)]) (stS 10 1 1 true [[1, 2, 3, 4, 5, 6, 7, 8, 9], [10]] [(0, 0), (0, 1), (0, 2), (0, 3)] [(0, 4), (0, 5), (0, 6), (0, 7), (0, 8), (1, 0)]) = true := by kernel_rfl
end X
end Go.Proofs.YtnkjnclpakfgnaaGreatDoor
