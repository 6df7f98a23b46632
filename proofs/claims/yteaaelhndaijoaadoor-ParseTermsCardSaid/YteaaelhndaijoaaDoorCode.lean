/- The functions that the law reaches as the evaluator takes them, and what they come to: printed by program. -/
import Derived.Test.YteaaelhndaijoaaDoorChecked
import Derived.KernelRfl
import Derived.Test.YteaaelhndaijoaaDoorAbs9
import Derived.Test.YteaaelhndaijoaaDoorAbs3
set_option maxRecDepth 100000
set_option linter.unusedVariables false
namespace Go.Proofs.YteaaelhndaijoaaDoor
open Go Go.Abs
def nm : FuncId → Option Nat := some
def imB (n c : Nat) : Bool := (Nat.beq n 8 && Nat.beq c 0) || (Nat.beq n 10 && Nat.beq c 6) || (Nat.beq n 10 && Nat.beq c 7) || (Nat.beq n 10 && Nat.beq c 8)
def noB (n : Nat) : Bool := (lkN [(65, true), (66, true), (67, true), (68, true)] n).isSome
def resT : Nat → Option RS := lkN [
 (4, (.val (.one (.bool)) [])),
 (5, (.val (.one (.bool)) [])),
 (6, (.tup [(.agg [.im 3, .im 2, .im 4]), (.one (.int .i64)), (.one (.int .i64))] [])),
 (7, (.val (.one (.str)) [])),
 (8, (.val (.one (.bool)) [])),
 (9, (.val (.one (.int .i64)) [])),
 (10, (.val (.one (.bool)) [])),
 (11, (.tup [(.one (.im 3)), (.one (.int .i64)), (.one (.int .i64))] [])),
 (12, (.val (.one (.bool)) [])),
 (13, (.val (.one (.bool)) [])),
 (14, (.val (.agg [.str, .im 1, .im 3]) [])),
 (15, (.val (.agg [.str, .im 3]) [])),
 (16, (.val (.agg [.str, .im 3, .im 6, .im 10]) [])),
 (17, (.tup [] [])),
 (18, (.val (.one (.bool)) [])),
 (19, (.tup [] [])),
 (20, (.val (.one .str) [[.bld 71, .dead]])),
 (21, (.val (.one (.bool)) [])),
 (22, (.val (.one (.bool)) [])),
 (23, (.val (.one (.bool)) [])),
 (24, (.val (.one (.int .i64)) [])),
 (26, (.val (.one (.bool)) [])),
 (27, (.val (.one (.bool)) [])),
 (28, (.val (.one (.bool)) [])),
 (29, (.tup [(.one (.str)), (.one (.int .i64)), (.one (.bool))] [])),
 (30, (.val (.one (.str)) [])),
 (31, (.val (.one (.bool)) [])),
 (32, (.val (.one (.str)) [])),
 (33, (.tup [] [])),
 (36, (.val (.agg [.int .i64, .str]) [])),
 (37, (.val (.one (.int .i64)) [])),
 (38, (.tup [(.one (.int .i64)), .ifc] [])),
 (39, (.val (.one (.str)) [])),
 (40, (.val (.one (.str)) [])),
 (41, (.val (.one (.str)) [])),
 (42, (.val (.one (.bool)) [])),
 (43, (.val (.one (.bool)) [])),
 (44, (.val (.one (.bool)) [])),
 (45, (.tup [(.one (.int .i64)), .ifc] [])),
 (46, (.val (.one (.int .u8)) [])),
 (47, (.val (.one (.bool)) [])),
 (48, (.val (.one (.int .u8)) [])),
 (49, (.val (.one (.bool)) [])),
 (51, (.tup [] [])),
 (52, (.tup [] [])),
 (53, (.val (.one (.str)) [])),
 (54, (.val (.one (.str)) [])),
 (55, (.val (.one (.str)) [])),
 (59, (.val (.one (.bool)) [])),
 (60, (.tup [] [])),
 (63, (.val (.one (.str)) [])),
 (69, (.val (.one (.int .i64)) [])),
 (70, (.val (.one (.im 1)) [])),
 (71, (.val (.one (.im 3)) [])),
 (72, (.val (.agg [.str, .str, .int .i64]) [])),
 (82, (.val (.one (.int .i64)) [])),
 (83, (.val (.one (.int .i64)) [])),
 (90, (.val (.agg [.int .i64, .str, .int .i64, .str, .int .i64, .int .i64]) [])),
 (91, (.val (.one (.int .i64)) [])),
 (92, (.val (.one (.int .i64)) [])),
 (95, (.val (.one (.int .i64)) [])),
 (96, (.val (.one (.int .i64)) [])),
 (97, (.val (.one (.int .i64)) [])),
 (98, (.val (.one (.int .i64)) []))]
def hint3 : Hint := ⟨79, 10, [], [], [(0, (some [1, 0]), false), (1, (some [1, 0]), false), (2, (some []), false), (3, (some [1, 0]), false), (4, (some []), false), (5, (some [1, 0]), false), (6, (some [1, 0, 5, 7]), false), (7, (some []), false), (8, (some [1, 0, 5]), false), (9, (some [8, 1, 0]), false), (10, (some [8, 9, 1, 0]), false)]⟩
noncomputable def k3 : KFunc := kOf 8 (compF Tryd.prog nm hint3 Tryd.f3 true)
noncomputable def k3_b0 : KCode := k3.body.at_ [1, 1, 1, 1, 1]
noncomputable def k3_b1 : KCode := k3.body.at_ [1, 1, 1]
def an3 : Ann := ⟨lkN [(5, [.im 3, .im 2, .im 4]), (35, [.im 4]), (41, [.im 4]), (44, [.im 10]), (49, [.im 4]), (51, [.str, .im 3, .im 6, .im 10]), (8, [.str, .im 3, .im 6, .im 10]), (53, [.im 10]), (56, [.int .i64]), (58, [.im 6]), (63, [.im 6]), (74, [.im 6])], resT, imB, noB⟩
noncomputable def h3_0 (Cl : Oracle) (n : Nat) (bx : List (List C)) (m0 : Nat) (S : Go.Abs.St) : Option (V × List (List C)) := jumpK 0 (evCA an3 Cl n k3_b0) m0 S (retK [.slot 4] true bx)
noncomputable def h3_1 (Cl : Oracle) (n : Nat) (bx : List (List C)) (m1 : Nat) (S : Go.Abs.St) : Option (V × List (List C)) := jumpK 1 (evCA an3 Cl n k3_b1) m1 S (retK [.slot 4] true bx)
def hint4 : Hint := ⟨65, 7, [], [], [(0, (some []), false), (1, (some []), false), (2, (some [1, 2, 3]), false), (3, (some [5, 6, 1, 2, 3]), false)]⟩
noncomputable def k4 : KFunc := kOf 8 (compF Tryd.prog nm hint4 Tryd.f4 true)
def an4 : Ann := ⟨lkN [(1, [.im 3, .im 2, .im 4]), (4, [.im 3, .im 2, .im 4]), (25, [.im 4]), (31, [.im 4]), (34, [.str]), (39, [.im 4]), (42, [.im 10]), (48, [.im 4]), (51, [.im 10]), (54, [.int .i64])], resT, imB, noB⟩
def hint5 : Hint := ⟨27, 7, [], [], [(0, (some [1, 0]), false), (1, (some [1, 2]), false), (2, (some []), false), (3, (some [1, 2]), false), (4, (some [1, 2, 5]), false), (5, (some [1, 6, 2, 5]), false), (6, (some [1, 6]), false)]⟩
noncomputable def k5 : KFunc := kOf 8 (compF Tryd.prog nm hint5 Tryd.f5 true)
noncomputable def k5_b0 : KCode := k5.body.at_ [1, 1]
def an5 : Ann := ⟨lkN [(7, [.im 6]), (16, [.im 6]), (20, [.im 6]), (5, [.im 1])], resT, imB, noB⟩
noncomputable def h5_0 (Cl : Oracle) (n : Nat) (bx : List (List C)) (m0 : Nat) (S : Go.Abs.St) : Option (V × List (List C)) := jumpK 0 (evCA an5 Cl n k5_b0) m0 S (retK [.slot 4] true bx)
def hint6 : Hint := ⟨81, 10, [2], [], [(0, (some [0]), false), (1, (some [2, 0]), false), (2, (some [2, 6, 0, 5, 7]), false), (3, (some [2, 6]), false), (4, (some [2, 0, 5]), false), (5, (some [8, 2]), false), (6, (some [9, 8, 2]), true), (8, (some [9, 8, 2]), false), (9, (some [9, 8, 2]), false), (10, (some [9, 8, 2]), false), (11, (some [9, 8, 2]), false), (12, (some [9, 8, 2]), false), (13, (some [9, 8, 2]), false), (7, (some [9, 8, 2]), false), (14, (some [2, 8, 9]), false), (15, (some [2, 8]), false), (16, (some [2, 9]), false)]⟩
noncomputable def k6 : KFunc := kOf 8 (compF Tryd.prog nm hint6 Tryd.f6 true)
noncomputable def k6_c0 : KCode := k6.body.at_ [1, 1, 1, 1, 1, 1]
noncomputable def k6_b0 : KCode := k6.body.at_ [1, 1, 1, 1, 1, 0, 0, 0]
def an6 : Ann := ⟨lkN [(2, [.im 3, .im 2, .im 4]), (40, [.im 3]), (45, [.im 3]), (52, [.im 2]), (57, [.im 2]), (64, [.im 4]), (69, [.im 4]), (79, [.int .i64]), (2, [.im 3, .im 2, .im 4]), (80, [.im 3, .im 2, .im 4]), (2, [.im 3, .im 2, .im 4])], resT, imB, noB⟩
noncomputable def h6_0 (Cl : Oracle) (n : Nat) (bx : List (List C)) (m0 : Nat) (S : Go.Abs.St) : Option (V × List (List C)) := iterK 0 (evCA an6 Cl n k6_b0) (some [9, 8, 2]) true m0 S (blockK 0 (seqK (evCA an6 Cl n k6_c0) (retK [.cell 2 3 true, .slot 3, .slot 4] true bx)))
def hint7 : Hint := ⟨18, 6, [], [], [(0, (some [1, 0]), false), (1, (some [1, 0]), false), (2, (some []), false), (3, (some [1, 0]), false), (4, (some [5, 1, 0]), false), (5, (some [5]), false)]⟩
noncomputable def k7 : KFunc := kOf 8 (compF Tryd.prog nm hint7 Tryd.f7 true)
def an7 : Ann := ⟨lkN [], resT, imB, noB⟩
def hint8 : Hint := ⟨71, 9, [], [], [(0, (some [1, 4, 0, 3, 2]), false), (1, (some [1, 4, 0, 3, 2]), false), (2, (some [1, 4, 0, 8, 3]), false), (3, (some [1, 4, 0, 9, 8, 3]), false), (4, (some []), false), (5, (some [1, 4, 0, 9, 8, 3]), false), (6, (some [1, 4, 0, 9, 8]), false), (7, (some [1, 4, 0, 9, 43, 44, 45]), true), (8, (some [1, 4, 0, 9, 43, 44, 45]), false), (9, (some [1, 4, 0, 9, 43, 44, 45, 11, 10]), false), (10, (some [1, 4, 0, 9, 43, 44, 45, 11]), false), (11, (some []), false), (12, (some [1, 4, 0, 9, 43, 44, 45, 11]), false), (13, (some []), false), (14, (some [1, 4, 0, 9, 43, 44, 45]), false), (15, (some []), false)]⟩
noncomputable def k8 : KFunc := kOf 8 (compF Tryd.prog nm hint8 Tryd.f8 true)
noncomputable def k8_c0 : KCode := k8.body.at_ [1, 1, 1, 1, 1, 1]
noncomputable def k8_b0 : KCode := k8.body.at_ [1, 1, 1, 1, 1, 0, 1, 0, 0]
noncomputable def k8_b1 : KCode := k8.body.at_ [1, 1, 1, 1]
def an8 : Ann := ⟨lkN [(12, [.im 6]), (15, [.int .i64, .str, .int .i64, .str, .int .i64, .int .i64]), (8, [.int .i64, .str, .int .i64, .str, .int .i64, .int .i64]), (17, [.int .i64]), (19, [.im 1]), (22, [.bool]), (32, [.int .i64, .str, .int .i64, .str, .int .i64, .int .i64]), (36, [.im 1]), (38, [.bool]), (40, [.int .i64]), (42, [.int .i64]), (49, [.int .i64])], resT, imB, noB⟩
noncomputable def h8_0 (Cl : Oracle) (n : Nat) (bx : List (List C)) (m0 : Nat) (S : Go.Abs.St) : Option (V × List (List C)) := iterK 0 (evCA an8 Cl n k8_b0) (some [1, 4, 0, 9, 43, 44, 45]) true m0 S (blockK 0 (seqK (evCA an8 Cl n k8_c0) (retK [.slot 7] true bx)))
noncomputable def h8_1 (Cl : Oracle) (n : Nat) (bx : List (List C)) (m1 : Nat) (S : Go.Abs.St) : Option (V × List (List C)) := jumpK 1 (evCA an8 Cl n k8_b1) m1 S (retK [.slot 7] true bx)
def hint9 : Hint := ⟨27, 3, [], [], [(0, (some [0]), false), (1, (some [0]), false), (2, (some [3]), false), (3, (some [3]), false), (4, (some [3]), false), (5, (some [3]), false), (6, (some [3]), false), (7, (some [3]), false), (8, (some []), false), (9, (some [3]), false), (10, (some [3]), false), (11, (some []), false), (12, (some [3]), false), (13, (some [3]), false), (14, (some [3]), false), (15, (some [3]), false), (16, (some [3]), false), (17, (some [3]), false), (18, (some [3]), false), (19, (some [3]), false), (20, (some [3]), false), (21, (some [3]), false), (22, (some [3]), false), (23, (some [3]), false), (24, (some []), false), (25, (some []), false)]⟩
noncomputable def k9 : KFunc := kOf 8 (compF Tryd.prog nm hint9 Tryd.f9 true)
noncomputable def k9_b0 : KCode := k9.body.at_ [1, 1]
def an9 : Ann := ⟨lkN [], resT, imB, noB⟩
noncomputable def h9_0 (Cl : Oracle) (n : Nat) (bx : List (List C)) (m0 : Nat) (S : Go.Abs.St) : Option (V × List (List C)) := jumpK 0 (evCA an9 Cl n k9_b0) m0 S (retK [.slot 2] true bx)
def hint10 : Hint := ⟨79, 3, [], [], [(0, (some [0]), false), (1, (some [1]), false), (2, (some [1, 4]), false), (3, (some [1]), false), (4, (some [1, 4]), false), (5, (some [1]), false), (6, (some [1, 4]), false), (7, (some [1]), false), (8, (some [1, 4]), false), (9, (some [1]), false), (10, (some [1]), false)]⟩
noncomputable def k10 : KFunc := kOf 8 (compF Tryd.prog nm hint10 Tryd.f10 true)
def an10 : Ann := ⟨lkN [(4, [.int .i64]), (8, [.str]), (12, [.int .i64]), (17, [.str]), (23, [.str]), (27, [.str]), (33, [.str]), (37, [.str]), (42, [.int .i64]), (46, [.int .i64]), (53, [.str]), (57, [.int .i64]), (62, [.str]), (67, [.str]), (71, [.int .i64]), (76, [.str])], resT, imB, noB⟩
def hint11 : Hint := ⟨146, 15, [], [], [(0, (some [0]), false), (1, (some [0]), false), (2, (some []), false), (3, (some [0]), false), (4, (some [0, 5]), false), (5, (some [0, 5, 6]), true), (6, (some [0, 5, 6]), false), (7, (some [0, 5, 6, 7]), false), (8, (some [0, 5, 6, 8, 7]), false), (9, (some [0, 5, 6, 8, 7, 9]), false), (15, (some [0, 5, 6, 8, 7, 9]), false), (16, (some [0, 5, 6]), false), (17, (some [0, 5, 6, 8, 7, 9]), false), (18, (some [0, 5, 6]), false), (19, (some [0, 8, 5, 6, 7, 9]), false), (20, (some [0, 8, 5, 6]), false), (21, (some [0, 8, 5, 6]), false), (22, (some [6, 0, 8, 5, 7, 9]), false), (23, (some [6, 0, 8, 5]), false), (24, (some [6, 0, 8, 5]), false), (25, (some [6, 0, 10, 8, 5]), false), (26, (some [6]), false), (27, (some [6, 0, 8, 5, 7]), false), (28, (some [6, 0, 8, 5]), false), (29, (some [6, 0, 12, 8, 5, 11, 13]), false), (30, (some [6]), false), (31, (some [0, 12, 8, 5, 11]), false), (32, (some [0, 12, 8, 5, 11]), false), (33, (some [0, 12, 8, 5]), false), (34, (some [0, 5, 12]), false), (10, (some [6, 0, 8, 5]), false), (11, (some [6, 0, 8, 5, 14]), false), (12, (some [6]), false), (13, (some [0, 8, 5, 6, 14]), false), (14, (some [0, 8, 5, 6, 14]), false), (35, (some [0, 10, 8, 5, 6]), false), (36, (some [0, 10, 8, 5]), false), (37, (some [0, 5, 10]), false), (38, (some [5]), false)]⟩
noncomputable def k11 : KFunc := kOf 8 (compF Tryd.prog nm hint11 Tryd.f11 true)
noncomputable def k11_c0 : KCode := k11.body.at_ [1, 1, 1, 1, 1]
noncomputable def k11_b1 : KCode := k11.body.at_ [1, 1, 1, 1, 0, 0, 0, 1, 0, 1, 1, 1, 1, 1]
noncomputable def k11_b2 : KCode := k11.body.at_ [1, 1, 1, 1, 0, 0, 0, 1, 0, 1, 1, 1]
noncomputable def k11_b0 : KCode := k11.body.at_ [1, 1, 1, 1, 0, 0, 0]
def an11 : Ann := ⟨lkN [(8, [.int .i64, .str, .int .i64]), (53, [.int .i64, .str, .int .i64]), (92, [.int .i64]), (102, [.int .i64]), (127, [.int .i64]), (129, [.str]), (131, [.int .i64, .str, .int .i64]), (65, [.int .i64]), (139, [.str]), (141, [.int .i64, .str, .int .i64])], resT, imB, noB⟩
noncomputable def h11_0 (Cl : Oracle) (n : Nat) (bx : List (List C)) (m0 : Nat) (S : Go.Abs.St) : Option (V × List (List C)) := iterK 0 (evCA an11 Cl n k11_b0) (some [0, 5, 6]) true m0 S (blockK 0 (seqK (evCA an11 Cl n k11_c0) (retK [.slot 2, .slot 3, .slot 4] true bx)))
noncomputable def h11_1 (Cl : Oracle) (n : Nat) (bx : List (List C)) (m0 : Nat) (m1 : Nat) (S : Go.Abs.St) : Option (V × List (List C)) := jumpK 1 (evCA an11 Cl n k11_b1) m1 S (blockK 1 (nextK (some [0, 5, 6]) true (h11_0 Cl n bx m0) (blockK 0 (seqK (evCA an11 Cl n k11_c0) (retK [.slot 2, .slot 3, .slot 4] true bx)))))
noncomputable def h11_2 (Cl : Oracle) (n : Nat) (bx : List (List C)) (m0 : Nat) (m2 : Nat) (S : Go.Abs.St) : Option (V × List (List C)) := jumpK 2 (evCA an11 Cl n k11_b2) m2 S (blockK 1 (nextK (some [0, 5, 6]) true (h11_0 Cl n bx m0) (blockK 0 (seqK (evCA an11 Cl n k11_c0) (retK [.slot 2, .slot 3, .slot 4] true bx)))))
def hint12 : Hint := ⟨18, 3, [], [], [(0, (some [0]), false), (1, (some [0]), false)]⟩
noncomputable def k12 : KFunc := kOf 8 (compF Tryd.prog nm hint12 Tryd.f12 true)
def an12 : Ann := ⟨lkN [(10, [.int .i64]), (14, [.im 3])], resT, imB, noB⟩
def hint13 : Hint := ⟨16, 5, [], [], [(0, (some [0, 1]), false), (1, (some [0, 1]), false), (2, (some []), false), (3, (some [0]), false), (4, (some []), false)]⟩
noncomputable def k13 : KFunc := kOf 8 (compF Tryd.prog nm hint13 Tryd.f13 true)
def an13 : Ann := ⟨lkN [(12, [.int .i64]), (15, [.int .i64])], resT, imB, noB⟩
def hint16 : Hint := ⟨75, 4, [2], [], [(0, (some [0]), false), (1, (some [2, 0]), false), (2, (some [2, 0]), false), (3, (some [2, 0]), true), (4, (some [2, 0]), false), (5, (some [2, 0, 3]), false), (6, (some [2, 0, 3]), false), (7, (some [2, 0, 3]), false), (8, (some [2, 0]), false), (9, (some [2, 0]), false), (10, (some [2, 0]), false), (11, (some [2, 0]), false), (12, (some [2, 0]), false), (13, (some [2, 0]), false)]⟩
noncomputable def k16 : KFunc := kOf 8 (compF Tryd.prog nm hint16 Tryd.f16 true)
noncomputable def k16_b3 : KCode := k16.body.at_ [1, 1, 1, 1]
noncomputable def k16_b1 : KCode := k16.body.at_ [1, 1, 1, 0, 0, 0, 1, 0, 1, 1, 1, 1]
noncomputable def k16_b2 : KCode := k16.body.at_ [1, 1, 1, 0, 0, 0, 1]
noncomputable def k16_b0 : KCode := k16.body.at_ [1, 1, 1, 0, 0, 0]
def an16 : Ann := ⟨lkN [(11, [.str, .im 3, .im 6, .im 10]), (3, [.str, .int .i64, .str]), (39, [.int .i64, .str]), (45, [.im 3]), (46, [.str, .int .i64, .str]), (51, [.im 3]), (74, [.str, .im 3, .im 6, .im 10]), (2, [.str, .im 3, .im 6, .im 10])], resT, imB, noB⟩
noncomputable def h16_3 (Cl : Oracle) (n : Nat) (bx : List (List C)) (m3 : Nat) (S : Go.Abs.St) : Option (V × List (List C)) := jumpK 3 (evCA an16 Cl n k16_b3) m3 S (retK [.cell 2 4 true] true bx)
noncomputable def h16_0 (Cl : Oracle) (n : Nat) (bx : List (List C)) (m0 : Nat) (S : Go.Abs.St) : Option (V × List (List C)) := iterK 0 (evCA an16 Cl n k16_b0) (some [2, 0]) true m0 S (blockK 0 (seqK (joinK 3 (some [2, 0]) false n (evCA an16 Cl n k16_b3)) (retK [.cell 2 4 true] true bx)))
noncomputable def h16_1 (Cl : Oracle) (n : Nat) (bx : List (List C)) (m0 : Nat) (m1 : Nat) (S : Go.Abs.St) : Option (V × List (List C)) := jumpK 1 (evCA an16 Cl n k16_b1) m1 S (blockK 1 (nextK (some [2, 0]) true (h16_0 Cl n bx m0) (blockK 0 (seqK (joinK 3 (some [2, 0]) false n (evCA an16 Cl n k16_b3)) (retK [.cell 2 4 true] true bx)))))
noncomputable def h16_2 (Cl : Oracle) (n : Nat) (bx : List (List C)) (m0 : Nat) (m2 : Nat) (S : Go.Abs.St) : Option (V × List (List C)) := jumpK 2 (evCA an16 Cl n k16_b2) m2 S (nextK (some [2, 0]) true (h16_0 Cl n bx m0) (blockK 0 (seqK (joinK 3 (some [2, 0]) false n (evCA an16 Cl n k16_b3)) (retK [.cell 2 4 true] true bx))))
def hint17 : Hint := ⟨35, 2, [], [], [(0, (some [0]), false), (1, (some [0]), false), (2, (some [0]), false), (3, (some [0]), false)]⟩
noncomputable def k17 : KFunc := kOf 8 (compF Tryd.prog nm hint17 Tryd.f17 true)
def an17 : Ann := ⟨lkN [(8, [.int .i64]), (10, [.int .i64]), (14, [.int .i64]), (18, [.im 3]), (25, [.im 3]), (29, [.int .i64]), (32, [.int .i64]), (34, [.int .i64])], resT, imB, noB⟩
def hint18 : Hint := ⟨8, 3, [], [], [(0, (some [0]), false), (1, (some [0]), false)]⟩
noncomputable def k18 : KFunc := kOf 8 (compF Tryd.prog nm hint18 Tryd.f18 true)
def an18 : Ann := ⟨lkN [(6, [.int .i64])], resT, imB, noB⟩
def hint19 : Hint := ⟨81, 7, [], [], [(0, (some [0, 1, 2]), false), (7, (some [6, 0, 1]), false), (8, (some [6, 0]), false), (9, (some [0, 6, 1]), false), (10, (some [0, 6, 1]), false), (11, (some [0, 6, 1]), false), (12, (some [0]), false), (13, (some [0, 6, 1]), false), (14, (some [0, 6, 1]), false), (15, (some [0, 6, 1]), false), (16, (some [0, 6, 1]), false), (17, (some [0, 6, 1]), false), (18, (some [0]), false), (1, (some [0, 6, 1]), false), (2, (some [0, 6, 1]), false), (3, (some [0, 6, 1]), false), (4, (some [0, 6, 1]), false), (5, (some [0, 6, 1]), false), (6, (some [0]), false)]⟩
noncomputable def k19 : KFunc := kOf 8 (compF Tryd.prog nm hint19 Tryd.f19 true)
def an19 : Ann := ⟨lkN [(10, [.int .i64, .str, .int .i64, .str, .int .i64, .int .i64]), (6, [.int .i64, .str, .int .i64, .str, .int .i64, .int .i64]), (36, [.int .i64]), (39, [.int .i64, .str, .int .i64, .str, .int .i64, .int .i64]), (44, [.int .i64]), (51, [.int .i64]), (57, [.int .i64]), (65, [.int .i64]), (69, [.int .i64]), (77, [.int .i64]), (13, [.int .i64]), (20, [.int .i64]), (23, [.int .i64]), (30, [.int .i64])], resT, imB, noB⟩
def hint20 : Hint := ⟨14, 3, [], [], [(0, (some [0]), false), (1, (some [0]), false)]⟩
noncomputable def k20 : KFunc := kOf 8 (compF Tryd.prog nm hint20 Tryd.f20 true)
def an20 : Ann := ⟨lkN [(6, [.im 1]), (11, [.im 1])], resT, imB, noB⟩
def hint21 : Hint := ⟨40, 4, [], [], [(0, (some [0]), false), (1, (some [0]), false), (2, (some []), false), (3, (some [0]), false), (4, (some [0, 3]), true), (6, (some [0, 3]), false), (7, (some []), false), (5, (some [0, 3]), false), (8, (some []), false)]⟩
noncomputable def k21 : KFunc := kOf 8 (compF Tryd.prog nm hint21 Tryd.f21 true)
noncomputable def k21_c0 : KCode := k21.body.at_ [1, 1, 1]
noncomputable def k21_b0 : KCode := k21.body.at_ [1, 1, 0, 1, 0, 0]
noncomputable def k21_b1 : KCode := k21.body.at_ [1, 1]
def an21 : Ann := ⟨lkN [], resT, imB, noB⟩
noncomputable def h21_0 (Cl : Oracle) (n : Nat) (bx : List (List C)) (m0 : Nat) (S : Go.Abs.St) : Option (V × List (List C)) := iterK 0 (evCA an21 Cl n k21_b0) (some [0, 3]) true m0 S (blockK 0 (seqK (evCA an21 Cl n k21_c0) (retK [.slot 2] true bx)))
noncomputable def h21_1 (Cl : Oracle) (n : Nat) (bx : List (List C)) (m1 : Nat) (S : Go.Abs.St) : Option (V × List (List C)) := jumpK 1 (evCA an21 Cl n k21_b1) m1 S (retK [.slot 2] true bx)
def hint22 : Hint := ⟨9, 3, [], [], [(0, (some [0]), false), (1, (some [0]), false)]⟩
noncomputable def k22 : KFunc := kOf 8 (compF Tryd.prog nm hint22 Tryd.f22 true)
def an22 : Ann := ⟨lkN [], resT, imB, noB⟩
def hint23 : Hint := ⟨17, 3, [], [], [(0, (some [0]), false), (1, (some [1]), false), (2, (some [1, 4]), false), (3, (some [1]), false), (4, (some [1, 4]), false), (5, (some [1, 4]), false), (6, (some []), false), (7, (some [1]), false)]⟩
noncomputable def k23 : KFunc := kOf 8 (compF Tryd.prog nm hint23 Tryd.f23 true)
def an23 : Ann := ⟨lkN [(4, [.int .i64]), (8, [.str]), (15, [.str])], resT, imB, noB⟩
def hint24 : Hint := ⟨21, 7, [], [], [(0, (some [1, 0, 2]), false), (1, (some [0, 2, 1]), true), (2, (some [0, 2, 1]), false), (3, (some [1]), false)]⟩
noncomputable def k24 : KFunc := kOf 8 (compF Tryd.prog nm hint24 Tryd.f24 true)
noncomputable def k24_c0 : KCode := k24.body.at_ [1, 1]
noncomputable def k24_b0 : KCode := k24.body.at_ [1, 0, 0, 0]
def an24 : Ann := ⟨lkN [], resT, imB, noB⟩
noncomputable def h24_0 (Cl : Oracle) (n : Nat) (bx : List (List C)) (m0 : Nat) (S : Go.Abs.St) : Option (V × List (List C)) := iterK 0 (evCA an24 Cl n k24_b0) (some [0, 2, 1]) true m0 S (blockK 0 (seqK (evCA an24 Cl n k24_c0) (retK [.slot 6] true bx)))
def hint25 : Hint := ⟨5, 3, [], [], [(0, (some [0]), false), (1, (some [0]), false)]⟩
noncomputable def k25 : KFunc := kOf 8 (compF Tryd.prog nm hint25 Tryd.f25 true)
def an25 : Ann := ⟨lkN [], resT, imB, noB⟩
def hint26 : Hint := ⟨9, 3, [], [], [(0, (some [0]), false), (1, (some [0]), false)]⟩
noncomputable def k26 : KFunc := kOf 8 (compF Tryd.prog nm hint26 Tryd.f26 true)
def an26 : Ann := ⟨lkN [], resT, imB, noB⟩
def hint27 : Hint := ⟨9, 3, [], [], [(0, (some [0]), false), (1, (some [0]), false)]⟩
noncomputable def k27 : KFunc := kOf 8 (compF Tryd.prog nm hint27 Tryd.f27 true)
def an27 : Ann := ⟨lkN [], resT, imB, noB⟩
def hint28 : Hint := ⟨46, 6, [], [], [(0, (some [0]), false), (1, (some [0]), false), (2, (some [0, 3]), false), (3, (some [0, 3]), false), (4, (some [0, 3]), false), (5, (some []), false), (6, (some [0]), false), (7, (some [5]), false)]⟩
noncomputable def k28 : KFunc := kOf 8 (compF Tryd.prog nm hint28 Tryd.f28 true)
noncomputable def k28_b0 : KCode := k28.body.at_ [1, 1, 1, 1]
noncomputable def k28_b1 : KCode := k28.body.at_ [1, 1, 1]
def an28 : Ann := ⟨lkN [], resT, imB, noB⟩
noncomputable def h28_0 (Cl : Oracle) (n : Nat) (bx : List (List C)) (m0 : Nat) (S : Go.Abs.St) : Option (V × List (List C)) := jumpK 0 (evCA an28 Cl n k28_b0) m0 S (retK [.slot 2] true bx)
noncomputable def h28_1 (Cl : Oracle) (n : Nat) (bx : List (List C)) (m1 : Nat) (S : Go.Abs.St) : Option (V × List (List C)) := jumpK 1 (evCA an28 Cl n k28_b1) m1 S (retK [.slot 2] true bx)
def hint29 : Hint := ⟨95, 10, [], [], [(0, (some [1, 0]), false), (1, (some [2, 1]), false), (2, (some [7, 2, 1]), false), (3, (some [7, 2, 8, 1]), false), (4, (some [1, 7, 2, 8]), true), (6, (some [1, 7, 2, 8]), false), (8, (some [1, 7, 2, 8, 9]), false), (9, (some [1, 7]), false), (10, (some [2, 8, 7, 1, 9]), false), (11, (some [2, 8, 7, 1]), false), (12, (some [2, 8, 1, 7]), false), (14, (some [2, 8, 1, 7, 40]), false), (15, (some [2, 8, 1, 7, 40]), false), (16, (some [2, 8, 1, 7]), false), (17, (some [2, 8, 1, 7, 40]), false), (18, (some [2, 8, 1, 7]), false), (19, (some [2, 8, 1, 7, 40]), false), (20, (some [2, 8, 1, 7]), false), (21, (some []), false), (22, (some [2, 8, 1, 7]), false), (23, (some [7, 2, 8, 1]), false), (13, (some []), false), (24, (some [2, 8, 1, 9, 7]), false), (25, (some []), false), (7, (some [2, 8, 1, 9, 7]), false), (5, (some [7, 2, 8, 1]), false), (26, (some []), false)]⟩
noncomputable def k29 : KFunc := kOf 8 (compF Tryd.prog nm hint29 Tryd.f29 true)
noncomputable def k29_c0 : KCode := k29.body.at_ [1, 1, 1, 1]
noncomputable def k29_b2 : KCode := k29.body.at_ [1, 1, 1, 0, 1, 0, 0, 1, 1]
noncomputable def k29_b1 : KCode := k29.body.at_ [1, 1, 1, 0, 1, 0, 0, 1, 0, 0, 1, 0, 1, 1, 1, 0, 1, 1, 0, 1, 1, 1, 1, 1, 0, 1]
noncomputable def k29_b0 : KCode := k29.body.at_ [1, 1, 1, 0, 1, 0, 0]
def an29 : Ann := ⟨lkN [(14, [.str]), (19, [.str]), (45, [.str]), (72, [.str]), (78, [.str])], resT, imB, noB⟩
noncomputable def h29_0 (Cl : Oracle) (n : Nat) (bx : List (List C)) (m0 : Nat) (S : Go.Abs.St) : Option (V × List (List C)) := iterK 0 (evCA an29 Cl n k29_b0) (some [1, 7, 2, 8]) true m0 S (blockK 0 (seqK (evCA an29 Cl n k29_c0) (retK [.slot 4, .slot 5, .slot 6] true bx)))
noncomputable def h29_2 (Cl : Oracle) (n : Nat) (bx : List (List C)) (m0 : Nat) (m2 : Nat) (S : Go.Abs.St) : Option (V × List (List C)) := jumpK 2 (evCA an29 Cl n k29_b2) m2 S (nextK (some [1, 7, 2, 8]) true (h29_0 Cl n bx m0) (blockK 0 (seqK (evCA an29 Cl n k29_c0) (retK [.slot 4, .slot 5, .slot 6] true bx))))
noncomputable def h29_1 (Cl : Oracle) (n : Nat) (bx : List (List C)) (m0 : Nat) (m1 : Nat) (S : Go.Abs.St) : Option (V × List (List C)) := jumpK 1 (evCA an29 Cl n k29_b1) m1 S (blockK 3 (blockK 2 (blockK 1 (seqK (joinK 2 (some [7, 2, 8, 1]) false n (evCA an29 Cl n k29_b2)) (nextK (some [1, 7, 2, 8]) true (h29_0 Cl n bx m0) (blockK 0 (seqK (evCA an29 Cl n k29_c0) (retK [.slot 4, .slot 5, .slot 6] true bx))))))))
def hint30 : Hint := ⟨44, 6, [], [], [(0, (some [1, 0]), false), (1, (some [1, 0]), false), (2, (some [1, 0]), false), (3, (some [5, 1, 0]), false), (4, (some [5, 1, 0, 16]), false), (5, (some [5, 1, 0, 16]), false), (6, (some [5]), false), (7, (some [1, 0]), false), (8, (some [1, 0, 23]), false), (9, (some [1, 0, 23]), false), (10, (some [1, 0, 23]), false), (11, (some [1, 0, 23]), false), (12, (some [1, 0, 23]), false), (13, (some [1, 0, 23]), false), (14, (some [1, 0, 23]), false), (15, (some [1, 0, 23]), false), (16, (some [1, 0, 23]), false), (17, (some [1, 0, 23]), false), (18, (some [1, 0, 23]), false), (19, (some [1, 0, 23]), false), (20, (some [1, 0, 23]), false), (21, (some [1, 0, 23]), false), (22, (some [1, 0]), false), (23, (some []), false)]⟩
noncomputable def k30 : KFunc := kOf 8 (compF Tryd.prog nm hint30 Tryd.f30 true)
noncomputable def k30_b0 : KCode := k30.body.at_ [1, 1, 1]
noncomputable def k30_b1 : KCode := k30.body.at_ [1, 1]
def an30 : Ann := ⟨lkN [], resT, imB, noB⟩
noncomputable def h30_0 (Cl : Oracle) (n : Nat) (bx : List (List C)) (m0 : Nat) (S : Go.Abs.St) : Option (V × List (List C)) := jumpK 0 (evCA an30 Cl n k30_b0) m0 S (retK [.slot 4] true bx)
noncomputable def h30_1 (Cl : Oracle) (n : Nat) (bx : List (List C)) (m1 : Nat) (S : Go.Abs.St) : Option (V × List (List C)) := jumpK 1 (evCA an30 Cl n k30_b1) m1 S (retK [.slot 4] true bx)
def hint31 : Hint := ⟨50, 5, [], [], [(0, (some [0, 1]), false), (1, (some [0, 1]), false)]⟩
noncomputable def k31 : KFunc := kOf 8 (compF Tryd.prog nm hint31 Tryd.f31 true)
def an31 : Ann := ⟨lkN [(11, [.im 3]), (15, [.int .i64]), (18, [.str]), (26, [.im 3]), (30, [.int .i64]), (33, [.int .i64]), (39, [.im 3]), (43, [.int .i64]), (46, [.int .i64])], resT, imB, noB⟩
def hint32 : Hint := ⟨27, 3, [], [], [(0, (some [0]), false), (1, (some [0]), false), (2, (some [0]), false), (3, (some []), false), (4, (some [0]), false), (5, (some [0]), false)]⟩
noncomputable def k32 : KFunc := kOf 8 (compF Tryd.prog nm hint32 Tryd.f32 true)
def an32 : Ann := ⟨lkN [(11, [.int .i64]), (14, [.int .i64]), (18, [.im 3]), (22, [.int .i64]), (26, [.str])], resT, imB, noB⟩
def hint33 : Hint := ⟨10, 4, [], [], [(0, (some [0, 1]), false), (1, (some [0]), false)]⟩
noncomputable def k33 : KFunc := kOf 8 (compF Tryd.prog nm hint33 Tryd.f33 true)
def an33 : Ann := ⟨lkN [], resT, imB, noB⟩
def hint36 : Hint := ⟨57, 4, [2], [], [(0, (some [0]), false), (1, (some [2, 0]), false), (2, (some [2]), false), (3, (some [2, 0]), false), (4, (some [2]), false), (5, (some [2, 0]), false), (6, (some [2]), false), (7, (some [2, 0]), false), (8, (some [2]), false), (9, (some [2, 0]), false), (10, (some [2]), false), (11, (some [2, 0]), false), (12, (some [2, 0]), false), (13, (some [2, 3, 0]), false), (14, (some [2, 3, 0]), false), (15, (some [2, 3]), false)]⟩
noncomputable def k36 : KFunc := kOf 8 (compF Tryd.prog nm hint36 Tryd.f36 true)
def an36 : Ann := ⟨lkN [(2, [.int .i64, .str]), (2, [.int .i64, .str]), (2, [.int .i64, .str]), (2, [.int .i64, .str]), (2, [.int .i64, .str]), (3, [.int .i64, .str]), (48, [.str]), (55, [.str]), (56, [.int .i64, .str]), (2, [.int .i64, .str])], resT, imB, noB⟩
def hint37 : Hint := ⟨21, 4, [], [], [(0, (some [0]), false), (1, (some [0]), false), (2, (some [0]), false), (3, (some [3, 0]), false), (4, (some [3, 0]), false), (5, (some [3]), false)]⟩
noncomputable def k37 : KFunc := kOf 8 (compF Tryd.prog nm hint37 Tryd.f37 true)
def an37 : Ann := ⟨lkN [(12, [.im 10])], resT, imB, noB⟩
def hint38 : Hint := ⟨19, 6, [], [], [(0, (some [1, 0]), false), (1, (some [1, 0]), false), (2, (some [1, 0]), false), (3, (some [1]), false)]⟩
noncomputable def k38 : KFunc := kOf 8 (compF Tryd.prog nm hint38 Tryd.f38 true)
def an38 : Ann := ⟨lkN [(12, [.im 1]), (16, [.im 1])], resT, imB, noB⟩
def hint39 : Hint := ⟨27, 3, [], [], [(0, (some [0]), false), (1, (some [1]), false), (2, (some [1, 4]), false), (3, (some [1]), false), (4, (some [1, 4]), false), (5, (some [1]), false), (6, (some [1, 4]), false), (7, (some [1]), false), (8, (some [1, 4]), false), (9, (some [1]), false), (10, (some [4]), false), (11, (some []), false), (12, (some []), false)]⟩
noncomputable def k39 : KFunc := kOf 8 (compF Tryd.prog nm hint39 Tryd.f39 true)
def an39 : Ann := ⟨lkN [(4, [.int .i64]), (8, [.str]), (12, [.int .i64]), (17, [.int .i64]), (23, [.str])], resT, imB, noB⟩
def hint40 : Hint := ⟨22, 3, [], [], [(0, (some [0]), false), (1, (some [0]), false), (2, (some [3]), false), (3, (some []), false), (4, (some [3]), false), (5, (some []), false), (6, (some [3]), false), (7, (some []), false), (8, (some [3]), false), (9, (some []), false), (10, (some [3]), false), (11, (some []), false), (12, (some [3]), false), (13, (some []), false), (14, (some [3]), false), (15, (some []), false), (16, (some [3]), false), (17, (some []), false), (18, (some [3]), false), (19, (some []), false), (20, (some []), false)]⟩
noncomputable def k40 : KFunc := kOf 8 (compF Tryd.prog nm hint40 Tryd.f40 true)
def an40 : Ann := ⟨lkN [], resT, imB, noB⟩
def hint41 : Hint := ⟨10, 3, [], [], [(0, (some [0]), false), (1, (some [0]), false), (2, (some [3]), false), (3, (some []), false), (4, (some [3]), false), (5, (some []), false), (6, (some [3]), false), (7, (some []), false), (8, (some []), false)]⟩
noncomputable def k41 : KFunc := kOf 8 (compF Tryd.prog nm hint41 Tryd.f41 true)
def an41 : Ann := ⟨lkN [], resT, imB, noB⟩
def hint42 : Hint := ⟨9, 3, [], [], [(0, (some [0]), false), (1, (some [0]), false)]⟩
noncomputable def k42 : KFunc := kOf 8 (compF Tryd.prog nm hint42 Tryd.f42 true)
def an42 : Ann := ⟨lkN [], resT, imB, noB⟩
def hint43 : Hint := ⟨46, 3, [], [], [(0, (some [0]), false), (1, (some [0]), false), (2, (some [3]), false), (3, (some [3]), false), (4, (some [3]), false), (5, (some [3]), false), (6, (some [3]), false), (7, (some [3]), false), (8, (some [3]), false), (9, (some [3]), false), (10, (some [3]), false), (11, (some [3]), false), (12, (some [3]), false), (13, (some [3]), false), (14, (some [3]), false), (15, (some []), false), (16, (some [3]), false), (17, (some [3]), false), (18, (some [3]), false), (19, (some [3]), false), (20, (some [3]), false), (21, (some [3]), false), (22, (some [3]), false), (23, (some [3]), false), (24, (some [3]), false), (25, (some [3]), false), (26, (some [3]), false), (27, (some [3]), false), (28, (some [3]), false), (29, (some []), false), (30, (some [3]), false), (31, (some [3]), false), (32, (some [3]), false), (33, (some [3]), false), (34, (some [3]), false), (35, (some [3]), false), (36, (some [3]), false), (37, (some [3]), false), (38, (some [3]), false), (39, (some [3]), false), (40, (some [3]), false), (41, (some [3]), false), (42, (some [3]), false), (43, (some []), false), (44, (some []), false)]⟩
noncomputable def k43 : KFunc := kOf 8 (compF Tryd.prog nm hint43 Tryd.f43 true)
noncomputable def k43_b0 : KCode := k43.body.at_ [1, 1]
def an43 : Ann := ⟨lkN [], resT, imB, noB⟩
noncomputable def h43_0 (Cl : Oracle) (n : Nat) (bx : List (List C)) (m0 : Nat) (S : Go.Abs.St) : Option (V × List (List C)) := jumpK 0 (evCA an43 Cl n k43_b0) m0 S (retK [.slot 2] true bx)
def hint44 : Hint := ⟨9, 3, [], [], [(0, (some [0]), false), (1, (some [0]), false)]⟩
noncomputable def k44 : KFunc := kOf 8 (compF Tryd.prog nm hint44 Tryd.f44 true)
def an44 : Ann := ⟨lkN [], resT, imB, noB⟩
def hint46 : Hint := ⟨11, 3, [], [], [(0, (some [0, 1]), false), (1, (some [0, 1]), false), (2, (some [0, 1]), false), (3, (some []), false)]⟩
noncomputable def k46 : KFunc := kOf 8 (compF Tryd.prog nm hint46 Tryd.f46 true)
def an46 : Ann := ⟨lkN [(5, [.str]), (8, [.str])], resT, imB, noB⟩
def hint47 : Hint := ⟨13, 3, [], [], [(0, (some [0]), false), (1, (some [0]), false)]⟩
noncomputable def k47 : KFunc := kOf 8 (compF Tryd.prog nm hint47 Tryd.f47 true)
def an47 : Ann := ⟨lkN [], resT, imB, noB⟩
def hint48 : Hint := ⟨10, 3, [], [], [(0, (some [0]), false), (1, (some [0]), false), (2, (some [0]), false), (3, (some [0]), false)]⟩
noncomputable def k48 : KFunc := kOf 8 (compF Tryd.prog nm hint48 Tryd.f48 true)
def an48 : Ann := ⟨lkN [], resT, imB, noB⟩
def hint49 : Hint := ⟨33, 3, [], [], [(0, (some [0]), false), (1, (some [0]), false)]⟩
noncomputable def k49 : KFunc := kOf 8 (compF Tryd.prog nm hint49 Tryd.f49 true)
def an49 : Ann := ⟨lkN [(9, [.im 3]), (13, [.int .i64]), (16, [.int .i64]), (23, [.im 3]), (27, [.int .i64]), (30, [.str])], resT, imB, noB⟩
def hint51 : Hint := ⟨51, 4, [], [], [(0, (some [0]), true), (1, (some [0]), false), (2, (some [0, 2]), false), (3, (some [0, 3, 2]), false), (4, (some [0, 3, 2]), false), (5, (some [0, 3, 2]), false), (6, (some [0, 3, 2]), false), (7, (some [3, 2, 0]), false), (8, (some [3, 2, 0]), false)]⟩
noncomputable def k51 : KFunc := kOf 8 (compF Tryd.prog nm hint51 Tryd.f51 true)
noncomputable def k51_b1 : KCode := k51.body.at_ [0, 0, 1, 0, 1, 1, 1]
noncomputable def k51_b0 : KCode := k51.body.at_ [0, 0]
def an51 : Ann := ⟨lkN [(13, [.im 10]), (3, [.int .i64, .str, .str, .str, .str, .int .i64, .im 1, .im 3, .im 3, .int .i64]), (21, [.im 10]), (22, [.int .i64, .str, .str, .str, .str, .int .i64, .im 1, .im 3, .im 3, .int .i64]), (27, [.im 10]), (32, [.int .i64]), (37, [.im 10]), (39, [.int .i64, .str, .str, .str, .str, .int .i64, .im 1, .im 3, .im 3, .int .i64]), (40, [.int .i64, .str, .str, .str, .str, .int .i64, .im 1, .im 3, .im 3, .int .i64]), (47, [.im 10]), (49, [.int .i64, .str, .str, .str, .str, .int .i64, .im 1, .im 3, .im 3, .int .i64]), (50, [.int .i64, .str, .str, .str, .str, .int .i64, .im 1, .im 3, .im 3, .int .i64])], resT, imB, noB⟩
noncomputable def h51_0 (Cl : Oracle) (n : Nat) (bx : List (List C)) (m0 : Nat) (S : Go.Abs.St) : Option (V × List (List C)) := iterK 0 (evCA an51 Cl n k51_b0) (some [0]) true m0 S (blockK 0 (retK [] true bx))
noncomputable def h51_1 (Cl : Oracle) (n : Nat) (bx : List (List C)) (m0 : Nat) (m1 : Nat) (S : Go.Abs.St) : Option (V × List (List C)) := jumpK 1 (evCA an51 Cl n k51_b1) m1 S (blockK 1 (nextK (some [0]) true (h51_0 Cl n bx m0) (blockK 0 (retK [] true bx))))
def hint54 : Hint := ⟨5, 3, [], [], [(0, (some [0]), false), (1, (some [0]), false)]⟩
noncomputable def k54 : KFunc := kOf 8 (compF Tryd.prog nm hint54 Tryd.f54 true)
def an54 : Ann := ⟨lkN [], resT, imB, noB⟩
def hint55 : Hint := ⟨57, 6, [], [], [(0, (some [0]), false), (1, (some [0]), false), (2, (some [3, 0]), false), (3, (some [0, 4, 3]), true), (5, (some [0, 4, 3]), false), (7, (some [0, 4, 5, 3]), false), (8, (some [0, 4, 5, 3]), false), (9, (some [0, 4, 3, 5]), false), (10, (some [0, 4, 3]), false), (11, (some [0, 4, 5, 3]), false), (12, (some [0, 4, 5, 3]), false), (6, (some [0, 4, 5, 3]), false), (4, (some [3, 0, 4]), false), (13, (some [3]), false)]⟩
noncomputable def k55 : KFunc := kOf 8 (compF Tryd.prog nm hint55 Tryd.f55 true)
noncomputable def k55_c0 : KCode := k55.body.at_ [1, 1, 1]
noncomputable def k55_b1 : KCode := k55.body.at_ [1, 1, 0, 1, 0, 0, 1, 1]
noncomputable def k55_b0 : KCode := k55.body.at_ [1, 1, 0, 1, 0, 0]
def an55 : Ann := ⟨lkN [], resT, imB, noB⟩
noncomputable def h55_0 (Cl : Oracle) (n : Nat) (bx : List (List C)) (m0 : Nat) (S : Go.Abs.St) : Option (V × List (List C)) := iterK 0 (evCA an55 Cl n k55_b0) (some [0, 4, 3]) true m0 S (blockK 0 (seqK (evCA an55 Cl n k55_c0) (retK [.slot 2] true bx)))
noncomputable def h55_1 (Cl : Oracle) (n : Nat) (bx : List (List C)) (m0 : Nat) (m1 : Nat) (S : Go.Abs.St) : Option (V × List (List C)) := jumpK 1 (evCA an55 Cl n k55_b1) m1 S (nextK (some [0, 4, 3]) true (h55_0 Cl n bx m0) (blockK 0 (seqK (evCA an55 Cl n k55_c0) (retK [.slot 2] true bx))))
def hint59 : Hint := ⟨178, 5, [], [], [(0, (some [0, 1]), false), (2, (some [0, 1]), false), (3, (some [0, 1]), false), (4, (some [0, 1]), false), (5, (some [0, 1]), false), (6, (some [0, 1]), false), (7, (some [0, 1]), false), (8, (some [0, 1]), false), (9, (some [0, 1]), false), (10, (some [0, 1]), false), (11, (some [0, 1]), false), (12, (some [0, 1]), false), (13, (some [0, 1]), false), (14, (some [0, 1]), false), (15, (some [0, 1]), false), (16, (some [0, 1]), false), (17, (some [0, 1]), false), (18, (some [0, 1]), false), (19, (some [0]), false), (20, (some [0, 1]), false), (21, (some [0, 1]), false), (22, (some [0, 1]), false), (23, (some [0, 1]), false), (24, (some [0, 1]), false), (25, (some [0, 1]), false), (26, (some [0, 1]), false), (27, (some [0, 1]), false), (28, (some [0, 1]), false), (29, (some [0, 1]), false), (30, (some [0, 1]), false), (31, (some [0, 1]), false), (32, (some [0, 1]), false), (33, (some [0, 1]), false), (34, (some [0, 1]), false), (35, (some [0, 1]), false), (1, (some []), false), (36, (some [0]), false), (37, (some []), false)]⟩
noncomputable def k59 : KFunc := kOf 8 (compF Tryd.prog nm hint59 Tryd.f59 true)
noncomputable def k59_b1 : KCode := k59.body.at_ [1, 1]
noncomputable def k59_b0 : KCode := k59.body.at_ [1, 0, 0, 1, 1, 1, 1, 1, 0, 1, 1, 1, 1, 1, 1, 1]
def an59 : Ann := ⟨lkN [(12, [.int .i64]), (19, [.str]), (28, [.int .i64]), (36, [.int .i64]), (41, [.int .i64]), (49, [.int .i64]), (56, [.str]), (67, [.str]), (74, [.str]), (88, [.int .i64]), (100, [.int .i64]), (107, [.str]), (112, [.im 1]), (120, [.int .i64]), (127, [.str]), (138, [.str]), (149, [.str]), (158, [.im 3]), (166, [.int .i64]), (173, [.str])], resT, imB, noB⟩
noncomputable def h59_1 (Cl : Oracle) (n : Nat) (bx : List (List C)) (m1 : Nat) (S : Go.Abs.St) : Option (V × List (List C)) := jumpK 1 (evCA an59 Cl n k59_b1) m1 S (retK [.slot 4] true bx)
noncomputable def h59_0 (Cl : Oracle) (n : Nat) (bx : List (List C)) (m0 : Nat) (S : Go.Abs.St) : Option (V × List (List C)) := jumpK 0 (evCA an59 Cl n k59_b0) m0 S (blockK 0 (seqK (joinK 1 (some [0]) false n (evCA an59 Cl n k59_b1)) (retK [.slot 4] true bx)))
def hint60 : Hint := ⟨153, 4, [], [], [(1, (some [1, 0]), false), (2, (some [1]), false), (3, (some [1, 0]), false), (4, (some [1]), false), (5, (some [0, 1]), false), (6, (some [0, 1]), false), (7, (some [0, 1]), false), (8, (some [0, 1]), false), (9, (some [0, 1]), false), (10, (some [0, 1]), false), (11, (some [0, 1]), false), (12, (some [0, 1]), false), (13, (some [0, 1]), false), (14, (some [0, 1]), false), (15, (some [0, 1]), false), (16, (some [0, 1]), false), (17, (some [0, 1]), false), (18, (some [0, 1]), false), (19, (some [0, 1]), false), (20, (some [0, 1]), false), (21, (some [0, 1]), false), (22, (some [0, 1]), true), (23, (some [0, 1]), false), (24, (some [0]), false), (0, (some [0]), false)]⟩
noncomputable def k60 : KFunc := kOf 8 (compF Tryd.prog nm hint60 Tryd.f60 true)
noncomputable def k60_b0 : KCode := k60.body.at_ [0, 1, 1, 1, 1, 1, 1, 1, 0, 1, 1, 1]
noncomputable def k60_b3 : KCode := k60.body.at_ [0, 1, 1, 1, 1, 1, 1, 1, 1, 1, 0, 1, 1, 1, 1, 1, 1, 1]
noncomputable def k60_b2 : KCode := k60.body.at_ [0, 1, 1, 1, 1, 1, 1, 1, 1, 1, 0, 1, 1, 1, 1, 1, 1, 0, 0, 0, 1]
noncomputable def k60_b1 : KCode := k60.body.at_ [0, 1, 1, 1, 1, 1, 1, 1, 1, 1, 0, 1, 1, 1, 1, 1, 1, 0, 0, 0]
def an60 : Ann := ⟨lkN [(15, [.int .i64]), (23, [.int .i64]), (31, [.int .i64]), (38, [.str]), (43, [.im 1]), (51, [.int .i64]), (56, [.int .i64]), (61, [.im 3]), (68, [.im 3]), (77, [.im 3]), (84, [.im 3]), (92, [.int .i64]), (99, [.str]), (110, [.str]), (119, [.im 3]), (125, [.im 3]), (142, [.im 3]), (148, [.im 3])], resT, imB, noB⟩
noncomputable def h60_0 (Cl : Oracle) (n : Nat) (bx : List (List C)) (m0 : Nat) (S : Go.Abs.St) : Option (V × List (List C)) := jumpK 0 (evCA an60 Cl n k60_b0) m0 S (blockK 0 (retK [] true bx))
noncomputable def h60_3 (Cl : Oracle) (n : Nat) (bx : List (List C)) (m3 : Nat) (S : Go.Abs.St) : Option (V × List (List C)) := jumpK 3 (evCA an60 Cl n k60_b3) m3 S (blockK 0 (retK [] true bx))
noncomputable def h60_1 (Cl : Oracle) (n : Nat) (bx : List (List C)) (m1 : Nat) (S : Go.Abs.St) : Option (V × List (List C)) := iterK 1 (evCA an60 Cl n k60_b1) (some [0, 1]) true m1 S (blockK 1 (seqK (joinK 3 (some [0]) false n (evCA an60 Cl n k60_b3)) (blockK 0 (retK [] true bx))))
noncomputable def h60_2 (Cl : Oracle) (n : Nat) (bx : List (List C)) (m1 : Nat) (m2 : Nat) (S : Go.Abs.St) : Option (V × List (List C)) := jumpK 2 (evCA an60 Cl n k60_b2) m2 S (nextK (some [0, 1]) true (h60_1 Cl n bx m1) (blockK 1 (seqK (joinK 3 (some [0]) false n (evCA an60 Cl n k60_b3)) (blockK 0 (retK [] true bx)))))
def hint63 : Hint := ⟨4, 3, [], [], [(0, (some [0]), false), (1, (some [0]), false), (2, (some []), false), (3, (some []), false)]⟩
noncomputable def k63 : KFunc := kOf 8 (compF Tryd.prog nm hint63 Tryd.f63 true)
def an63 : Ann := ⟨lkN [], resT, imB, noB⟩
def hint69 : Hint := ⟨9, 3, [], [], [(0, (some [0]), false), (1, (some [0]), false)]⟩
noncomputable def k69 : KFunc := kOf 8 (compF Tryd.prog nm hint69 Tryd.f69 true)
def an69 : Ann := ⟨lkN [], resT, imB, noB⟩
def hint82 : Hint := ⟨51, 14, [], [], [(0, (some [0, 1, 3, 2]), false), (1, (some [0, 1, 3, 2]), false), (2, (some [9, 0, 1, 3, 2]), true), (3, (some [9, 0, 1, 3, 2]), false), (4, (some [9, 0, 1, 3, 2, 10]), false), (5, (some [9, 0, 1, 3, 2, 21, 10, 22, 23]), true), (6, (some [9, 0, 1, 3, 2, 21, 10, 22, 23]), false), (7, (some [9, 0, 1, 3, 2, 11, 21, 10, 22, 23, 12]), false), (8, (some [9, 0, 1, 3, 2, 11]), false), (9, (some [9, 0, 1, 3, 2, 21, 10, 22, 23]), false), (10, (some [9, 0, 1, 3, 2, 10]), false), (11, (some [0, 1, 3, 2, 9, 10]), false), (12, (some [0, 1, 3, 2, 13, 9]), false), (13, (some [0, 1, 3, 2, 13]), false), (14, (some [0, 1, 3, 2, 13]), false), (15, (some [9]), false)]⟩
noncomputable def k82 : KFunc := kOf 8 (compF Tryd.prog nm hint82 Tryd.f82 true)
noncomputable def k82_c0 : KCode := k82.body.at_ [1, 1, 1]
noncomputable def k82_b2 : KCode := k82.body.at_ [1, 1, 0, 0, 0, 1, 0, 1, 1]
noncomputable def k82_b1 : KCode := k82.body.at_ [1, 1, 0, 0, 0, 1, 0, 1, 0, 1, 0, 0]
noncomputable def k82_b0 : KCode := k82.body.at_ [1, 1, 0, 0, 0]
def an82 : Ann := ⟨lkN [(27, [.str]), (36, [.int .i64]), (13, [.int .i64, .str, .int .i64, .str, .int .i64, .int .i64]), (43, [.int .i64]), (46, [.int .i64]), (48, [.int .i64, .str, .int .i64, .str, .int .i64, .int .i64])], resT, imB, noB⟩
noncomputable def h82_0 (Cl : Oracle) (n : Nat) (bx : List (List C)) (m0 : Nat) (S : Go.Abs.St) : Option (V × List (List C)) := iterK 0 (evCA an82 Cl n k82_b0) (some [9, 0, 1, 3, 2]) true m0 S (blockK 0 (seqK (evCA an82 Cl n k82_c0) (retK [.slot 8] true bx)))
noncomputable def h82_2 (Cl : Oracle) (n : Nat) (bx : List (List C)) (m0 : Nat) (m2 : Nat) (S : Go.Abs.St) : Option (V × List (List C)) := jumpK 2 (evCA an82 Cl n k82_b2) m2 S (blockK 1 (nextK (some [9, 0, 1, 3, 2]) true (h82_0 Cl n bx m0) (blockK 0 (seqK (evCA an82 Cl n k82_c0) (retK [.slot 8] true bx)))))
noncomputable def h82_1 (Cl : Oracle) (n : Nat) (bx : List (List C)) (m0 : Nat) (m1 : Nat) (S : Go.Abs.St) : Option (V × List (List C)) := iterK 1 (evCA an82 Cl n k82_b1) (some [9, 0, 1, 3, 2, 21, 10, 22, 23]) true m1 S (blockK 2 (seqK (joinK 2 (some [9, 0, 1, 3, 2, 10]) false n (evCA an82 Cl n k82_b2)) (blockK 1 (nextK (some [9, 0, 1, 3, 2]) true (h82_0 Cl n bx m0) (blockK 0 (seqK (evCA an82 Cl n k82_c0) (retK [.slot 8] true bx)))))))
def hint83 : Hint := ⟨9, 3, [], [], [(0, (some [0]), false), (1, (some [0]), false)]⟩
noncomputable def k83 : KFunc := kOf 8 (compF Tryd.prog nm hint83 Tryd.f83 true)
def an83 : Ann := ⟨lkN [], resT, imB, noB⟩
def hint90 : Hint := ⟨5, 3, [2], [], [(0, (some [0]), false), (1, (some [2, 0]), false)]⟩
noncomputable def k90 : KFunc := kOf 8 (compF Tryd.prog nm hint90 Tryd.f90 true)
def an90 : Ann := ⟨lkN [(2, [.int .i64, .str, .int .i64, .str, .int .i64, .int .i64])], resT, imB, noB⟩
def hint91 : Hint := ⟨24, 5, [], [], [(0, (some [0, 1]), false), (1, (some [0, 3]), false), (2, (some [0]), false)]⟩
noncomputable def k91 : KFunc := kOf 8 (compF Tryd.prog nm hint91 Tryd.f91 true)
noncomputable def k91_b0 : KCode := k91.body.at_ [1, 1]
def an91 : Ann := ⟨lkN [(10, [.im 6]), (11, [.int .i64, .str, .int .i64, .str, .int .i64, .int .i64]), (16, [.im 6]), (21, [.im 6])], resT, imB, noB⟩
noncomputable def h91_0 (Cl : Oracle) (n : Nat) (bx : List (List C)) (m0 : Nat) (S : Go.Abs.St) : Option (V × List (List C)) := jumpK 0 (evCA an91 Cl n k91_b0) m0 S (retK [.slot 4] true bx)
def hint92 : Hint := ⟨39, 5, [], [], [(0, (some [0]), false), (1, (some [0]), false), (2, (some [0]), false), (3, (some [3, 0]), false), (4, (some [3, 0]), false), (5, (some [0]), false), (6, (some [4, 0]), false), (8, (some [4, 0]), false), (9, (some [4, 0]), false), (10, (some [4, 0]), false), (7, (some [4]), false), (11, (some [4, 0]), false), (12, (some [4, 0]), false)]⟩
noncomputable def k92 : KFunc := kOf 8 (compF Tryd.prog nm hint92 Tryd.f92 true)
noncomputable def k92_b0 : KCode := k92.body.at_ [1, 1, 1, 1, 1]
def an92 : Ann := ⟨lkN [(3, [.int .i64, .str, .int .i64, .str, .int .i64, .int .i64]), (12, [.int .i64]), (14, [.int .i64, .str, .int .i64, .str, .int .i64, .int .i64]), (4, [.int .i64, .str, .int .i64, .str, .int .i64, .int .i64]), (19, [.int .i64]), (32, [.int .i64]), (21, [.int .i64]), (35, [.int .i64]), (37, [.int .i64, .str, .int .i64, .str, .int .i64, .int .i64])], resT, imB, noB⟩
noncomputable def h92_0 (Cl : Oracle) (n : Nat) (bx : List (List C)) (m0 : Nat) (S : Go.Abs.St) : Option (V × List (List C)) := jumpK 0 (evCA an92 Cl n k92_b0) m0 S (retK [.slot 2] true bx)
def hint95 : Hint := ⟨9, 3, [], [], [(0, (some [0]), false), (1, (some [0]), false)]⟩
noncomputable def k95 : KFunc := kOf 8 (compF Tryd.prog nm hint95 Tryd.f95 true)
def an95 : Ann := ⟨lkN [], resT, imB, noB⟩
def hint96 : Hint := ⟨9, 3, [], [], [(0, (some [0]), false), (1, (some [0]), false)]⟩
noncomputable def k96 : KFunc := kOf 8 (compF Tryd.prog nm hint96 Tryd.f96 true)
def an96 : Ann := ⟨lkN [], resT, imB, noB⟩
def hint97 : Hint := ⟨204, 8, [], [], [(0, (some [0]), false), (1, (some [0]), false), (2, (some []), false), (3, (some [0]), false), (4, (some [0]), false), (5, (some [3, 0]), false), (6, (some [3, 0]), false), (7, (some [0]), false), (8, (some [0]), false), (9, (some [0]), false), (10, (some [0]), false), (11, (some [0]), false), (12, (some [0]), false), (13, (some [0]), false), (14, (some [0]), false), (15, (some [0]), false), (16, (some [0]), false), (17, (some [0]), false), (18, (some [0]), false), (19, (some [0]), false), (20, (some [0]), false), (21, (some [0]), false), (22, (some [0]), false), (23, (some [4, 0]), false), (24, (some [4]), false), (25, (some [0]), false), (26, (some [0]), false), (27, (some [5, 0]), false), (28, (some [5, 0]), false), (29, (some [0]), false), (30, (some [0]), false), (31, (some [6, 0]), false), (32, (some [6, 0]), false), (33, (some [6, 0]), false), (34, (some [0]), false), (35, (some [0]), false), (36, (some [7, 0]), false), (37, (some [7, 0]), false), (38, (some [7, 0]), false), (39, (some [0]), false), (40, (some []), false)]⟩
noncomputable def k97 : KFunc := kOf 8 (compF Tryd.prog nm hint97 Tryd.f97 true)
noncomputable def k97_b0 : KCode := k97.body.at_ [1, 1, 1]
def an97 : Ann := ⟨lkN [(3, [.int .i64, .str, .int .i64, .str, .int .i64, .int .i64]), (18, [.int .i64]), (20, [.int .i64, .str, .int .i64, .str, .int .i64, .int .i64]), (5, [.int .i64, .str, .int .i64, .str, .int .i64, .int .i64]), (96, [.str]), (98, [.int .i64, .str, .int .i64, .str, .int .i64, .int .i64]), (110, [.im 3]), (115, [.int .i64]), (118, [.int .i64]), (6, [.int .i64, .str, .int .i64, .str, .int .i64, .int .i64]), (127, [.im 3]), (132, [.int .i64]), (135, [.str]), (139, [.int .i64]), (144, [.int .i64]), (148, [.int .i64]), (150, [.int .i64, .str, .int .i64, .str, .int .i64, .int .i64]), (162, [.im 3]), (167, [.int .i64]), (170, [.int .i64]), (7, [.int .i64, .str, .int .i64, .str, .int .i64, .int .i64]), (178, [.im 3]), (183, [.int .i64]), (186, [.str]), (187, [.str]), (192, [.int .i64]), (196, [.int .i64]), (198, [.int .i64, .str, .int .i64, .str, .int .i64, .int .i64])], resT, imB, noB⟩
noncomputable def h97_0 (Cl : Oracle) (n : Nat) (bx : List (List C)) (m0 : Nat) (S : Go.Abs.St) : Option (V × List (List C)) := jumpK 0 (evCA an97 Cl n k97_b0) m0 S (retK [.slot 2] true bx)
def hint98 : Hint := ⟨31, 6, [], [], [(0, (some [0, 1]), false), (1, (some [0, 1]), false), (2, (some [5, 0, 1]), false), (3, (some [5, 0, 1]), false), (4, (some [5, 0, 1]), false), (5, (some [5, 0]), false), (6, (some [5, 0]), false), (7, (some [5, 0]), false), (8, (some [5, 0]), false)]⟩
noncomputable def k98 : KFunc := kOf 8 (compF Tryd.prog nm hint98 Tryd.f98 true)
noncomputable def k98_b0 : KCode := k98.body.at_ [1, 1, 1, 1, 1]
def an98 : Ann := ⟨lkN [(5, [.int .i64, .str, .int .i64, .str, .int .i64, .int .i64]), (14, [.int .i64]), (23, [.int .i64]), (29, [.int .i64, .str, .int .i64, .str, .int .i64, .int .i64])], resT, imB, noB⟩
noncomputable def h98_0 (Cl : Oracle) (n : Nat) (bx : List (List C)) (m0 : Nat) (S : Go.Abs.St) : Option (V × List (List C)) := jumpK 0 (evCA an98 Cl n k98_b0) m0 S (retK [.slot 4] true bx)
theorem link3 : compF Tryd.prog nm hint3 Tryd.f3 true = some k3.fn := by kernel_rfl
theorem link4 : compF Tryd.prog nm hint4 Tryd.f4 true = some k4.fn := by kernel_rfl
theorem link5 : compF Tryd.prog nm hint5 Tryd.f5 true = some k5.fn := by kernel_rfl
theorem link6 : compF Tryd.prog nm hint6 Tryd.f6 true = some k6.fn := by kernel_rfl
theorem link7 : compF Tryd.prog nm hint7 Tryd.f7 true = some k7.fn := by kernel_rfl
theorem link8 : compF Tryd.prog nm hint8 Tryd.f8 true = some k8.fn := by kernel_rfl
theorem link9 : compF Tryd.prog nm hint9 Tryd.f9 true = some k9.fn := by kernel_rfl
theorem link10 : compF Tryd.prog nm hint10 Tryd.f10 true = some k10.fn := by kernel_rfl
theorem link11 : compF Tryd.prog nm hint11 Tryd.f11 true = some k11.fn := by kernel_rfl
theorem link12 : compF Tryd.prog nm hint12 Tryd.f12 true = some k12.fn := by kernel_rfl
theorem link13 : compF Tryd.prog nm hint13 Tryd.f13 true = some k13.fn := by kernel_rfl
theorem link16 : compF Tryd.prog nm hint16 Tryd.f16 true = some k16.fn := by kernel_rfl
theorem link17 : compF Tryd.prog nm hint17 Tryd.f17 true = some k17.fn := by kernel_rfl
theorem link18 : compF Tryd.prog nm hint18 Tryd.f18 true = some k18.fn := by kernel_rfl
theorem link19 : compF Tryd.prog nm hint19 Tryd.f19 true = some k19.fn := by kernel_rfl
theorem link20 : compF Tryd.prog nm hint20 Tryd.f20 true = some k20.fn := by kernel_rfl
theorem link21 : compF Tryd.prog nm hint21 Tryd.f21 true = some k21.fn := by kernel_rfl
theorem link22 : compF Tryd.prog nm hint22 Tryd.f22 true = some k22.fn := by kernel_rfl
theorem link23 : compF Tryd.prog nm hint23 Tryd.f23 true = some k23.fn := by kernel_rfl
theorem link24 : compF Tryd.prog nm hint24 Tryd.f24 true = some k24.fn := by kernel_rfl
theorem link25 : compF Tryd.prog nm hint25 Tryd.f25 true = some k25.fn := by kernel_rfl
theorem link26 : compF Tryd.prog nm hint26 Tryd.f26 true = some k26.fn := by kernel_rfl
theorem link27 : compF Tryd.prog nm hint27 Tryd.f27 true = some k27.fn := by kernel_rfl
theorem link28 : compF Tryd.prog nm hint28 Tryd.f28 true = some k28.fn := by kernel_rfl
theorem link29 : compF Tryd.prog nm hint29 Tryd.f29 true = some k29.fn := by kernel_rfl
theorem link30 : compF Tryd.prog nm hint30 Tryd.f30 true = some k30.fn := by kernel_rfl
theorem link31 : compF Tryd.prog nm hint31 Tryd.f31 true = some k31.fn := by kernel_rfl
theorem link32 : compF Tryd.prog nm hint32 Tryd.f32 true = some k32.fn := by kernel_rfl
theorem link33 : compF Tryd.prog nm hint33 Tryd.f33 true = some k33.fn := by kernel_rfl
theorem link36 : compF Tryd.prog nm hint36 Tryd.f36 true = some k36.fn := by kernel_rfl
theorem link37 : compF Tryd.prog nm hint37 Tryd.f37 true = some k37.fn := by kernel_rfl
theorem link38 : compF Tryd.prog nm hint38 Tryd.f38 true = some k38.fn := by kernel_rfl
theorem link39 : compF Tryd.prog nm hint39 Tryd.f39 true = some k39.fn := by kernel_rfl
theorem link40 : compF Tryd.prog nm hint40 Tryd.f40 true = some k40.fn := by kernel_rfl
theorem link41 : compF Tryd.prog nm hint41 Tryd.f41 true = some k41.fn := by kernel_rfl
theorem link42 : compF Tryd.prog nm hint42 Tryd.f42 true = some k42.fn := by kernel_rfl
theorem link43 : compF Tryd.prog nm hint43 Tryd.f43 true = some k43.fn := by kernel_rfl
theorem link44 : compF Tryd.prog nm hint44 Tryd.f44 true = some k44.fn := by kernel_rfl
theorem link46 : compF Tryd.prog nm hint46 Tryd.f46 true = some k46.fn := by kernel_rfl
theorem link47 : compF Tryd.prog nm hint47 Tryd.f47 true = some k47.fn := by kernel_rfl
theorem link48 : compF Tryd.prog nm hint48 Tryd.f48 true = some k48.fn := by kernel_rfl
theorem link49 : compF Tryd.prog nm hint49 Tryd.f49 true = some k49.fn := by kernel_rfl
theorem link51 : compF Tryd.prog nm hint51 Tryd.f51 true = some k51.fn := by kernel_rfl
theorem link54 : compF Tryd.prog nm hint54 Tryd.f54 true = some k54.fn := by kernel_rfl
theorem link55 : compF Tryd.prog nm hint55 Tryd.f55 true = some k55.fn := by kernel_rfl
theorem link59 : compF Tryd.prog nm hint59 Tryd.f59 true = some k59.fn := by kernel_rfl
theorem link60 : compF Tryd.prog nm hint60 Tryd.f60 true = some k60.fn := by kernel_rfl
theorem link63 : compF Tryd.prog nm hint63 Tryd.f63 true = some k63.fn := by kernel_rfl
theorem link69 : compF Tryd.prog nm hint69 Tryd.f69 true = some k69.fn := by kernel_rfl
theorem link82 : compF Tryd.prog nm hint82 Tryd.f82 true = some k82.fn := by kernel_rfl
theorem link83 : compF Tryd.prog nm hint83 Tryd.f83 true = some k83.fn := by kernel_rfl
theorem link90 : compF Tryd.prog nm hint90 Tryd.f90 true = some k90.fn := by kernel_rfl
theorem link91 : compF Tryd.prog nm hint91 Tryd.f91 true = some k91.fn := by kernel_rfl
theorem link92 : compF Tryd.prog nm hint92 Tryd.f92 true = some k92.fn := by kernel_rfl
theorem link95 : compF Tryd.prog nm hint95 Tryd.f95 true = some k95.fn := by kernel_rfl
theorem link96 : compF Tryd.prog nm hint96 Tryd.f96 true = some k96.fn := by kernel_rfl
theorem link97 : compF Tryd.prog nm hint97 Tryd.f97 true = some k97.fn := by kernel_rfl
theorem link98 : compF Tryd.prog nm hint98 Tryd.f98 true = some k98.fn := by kernel_rfl
noncomputable def tab : Nat → Option IFunc
 | 3 => some k3.fn
 | 4 => some k4.fn
 | 5 => some k5.fn
 | 6 => some k6.fn
 | 7 => some k7.fn
 | 8 => some k8.fn
 | 9 => some k9.fn
 | 10 => some k10.fn
 | 11 => some k11.fn
 | 12 => some k12.fn
 | 13 => some k13.fn
 | 16 => some k16.fn
 | 17 => some k17.fn
 | 18 => some k18.fn
 | 19 => some k19.fn
 | 20 => some k20.fn
 | 21 => some k21.fn
 | 22 => some k22.fn
 | 23 => some k23.fn
 | 24 => some k24.fn
 | 25 => some k25.fn
 | 26 => some k26.fn
 | 27 => some k27.fn
 | 28 => some k28.fn
 | 29 => some k29.fn
 | 30 => some k30.fn
 | 31 => some k31.fn
 | 32 => some k32.fn
 | 33 => some k33.fn
 | 36 => some k36.fn
 | 37 => some k37.fn
 | 38 => some k38.fn
 | 39 => some k39.fn
 | 40 => some k40.fn
 | 41 => some k41.fn
 | 42 => some k42.fn
 | 43 => some k43.fn
 | 44 => some k44.fn
 | 46 => some k46.fn
 | 47 => some k47.fn
 | 48 => some k48.fn
 | 49 => some k49.fn
 | 51 => some k51.fn
 | 54 => some k54.fn
 | 55 => some k55.fn
 | 59 => some k59.fn
 | 60 => some k60.fn
 | 63 => some k63.fn
 | 69 => some k69.fn
 | 82 => some k82.fn
 | 83 => some k83.fn
 | 90 => some k90.fn
 | 91 => some k91.fn
 | 92 => some k92.fn
 | 95 => some k95.fn
 | 96 => some k96.fn
 | 97 => some k97.fn
 | 98 => some k98.fn
 | _ => none
theorem tabOk : TabOk Tryd.prog nm tab := by
 refine ⟨by kernel_rfl, ?_⟩
 intro f fn fid h hn
 simp only [nm, Option.some.injEq] at hn
 subst hn
 unfold tab at h
 split at h
 · cases h; exact ⟨Tryd.f3, hint3, true, Tryd.func3, by kernel_rfl, link3⟩
 · cases h; exact ⟨Tryd.f4, hint4, true, Tryd.func4, by kernel_rfl, link4⟩
 · cases h; exact ⟨Tryd.f5, hint5, true, Tryd.func5, by kernel_rfl, link5⟩
 · cases h; exact ⟨Tryd.f6, hint6, true, Tryd.func6, by kernel_rfl, link6⟩
 · cases h; exact ⟨Tryd.f7, hint7, true, Tryd.func7, by kernel_rfl, link7⟩
 · cases h; exact ⟨Tryd.f8, hint8, true, Tryd.func8, by kernel_rfl, link8⟩
 · cases h; exact ⟨Tryd.f9, hint9, true, Tryd.func9, by kernel_rfl, link9⟩
 · cases h; exact ⟨Tryd.f10, hint10, true, Tryd.func10, by kernel_rfl, link10⟩
 · cases h; exact ⟨Tryd.f11, hint11, true, Tryd.func11, by kernel_rfl, link11⟩
 · cases h; exact ⟨Tryd.f12, hint12, true, Tryd.func12, by kernel_rfl, link12⟩
 · cases h; exact ⟨Tryd.f13, hint13, true, Tryd.func13, by kernel_rfl, link13⟩
 · cases h; exact ⟨Tryd.f16, hint16, true, Tryd.func16, by kernel_rfl, link16⟩
 · cases h; exact ⟨Tryd.f17, hint17, true, Tryd.func17, by kernel_rfl, link17⟩
 · cases h; exact ⟨Tryd.f18, hint18, true, Tryd.func18, by kernel_rfl, link18⟩
 · cases h; exact ⟨Tryd.f19, hint19, true, Tryd.func19, by kernel_rfl, link19⟩
 · cases h; exact ⟨Tryd.f20, hint20, true, Tryd.func20, by kernel_rfl, link20⟩
 · cases h; exact ⟨Tryd.f21, hint21, true, Tryd.func21, by kernel_rfl, link21⟩
 · cases h; exact ⟨Tryd.f22, hint22, true, Tryd.func22, by kernel_rfl, link22⟩
 · cases h; exact ⟨Tryd.f23, hint23, true, Tryd.func23, by kernel_rfl, link23⟩
 · cases h; exact ⟨Tryd.f24, hint24, true, Tryd.func24, by kernel_rfl, link24⟩
 · cases h; exact ⟨Tryd.f25, hint25, true, Tryd.func25, by kernel_rfl, link25⟩
 · cases h; exact ⟨Tryd.f26, hint26, true, Tryd.func26, by kernel_rfl, link26⟩
 · cases h; exact ⟨Tryd.f27, hint27, true, Tryd.func27, by kernel_rfl, link27⟩
 · cases h; exact ⟨Tryd.f28, hint28, true, Tryd.func28, by kernel_rfl, link28⟩
 · cases h; exact ⟨Tryd.f29, hint29, true, Tryd.func29, by kernel_rfl, link29⟩
 · cases h; exact ⟨Tryd.f30, hint30, true, Tryd.func30, by kernel_rfl, link30⟩
 · cases h; exact ⟨Tryd.f31, hint31, true, Tryd.func31, by kernel_rfl, link31⟩
 · cases h; exact ⟨Tryd.f32, hint32, true, Tryd.func32, by kernel_rfl, link32⟩
 · cases h; exact ⟨Tryd.f33, hint33, true, Tryd.func33, by kernel_rfl, link33⟩
 · cases h; exact ⟨Tryd.f36, hint36, true, Tryd.func36, by kernel_rfl, link36⟩
 · cases h; exact ⟨Tryd.f37, hint37, true, Tryd.func37, by kernel_rfl, link37⟩
 · cases h; exact ⟨Tryd.f38, hint38, true, Tryd.func38, by kernel_rfl, link38⟩
 · cases h; exact ⟨Tryd.f39, hint39, true, Tryd.func39, by kernel_rfl, link39⟩
 · cases h; exact ⟨Tryd.f40, hint40, true, Tryd.func40, by kernel_rfl, link40⟩
 · cases h; exact ⟨Tryd.f41, hint41, true, Tryd.func41, by kernel_rfl, link41⟩
 · cases h; exact ⟨Tryd.f42, hint42, true, Tryd.func42, by kernel_rfl, link42⟩
 · cases h; exact ⟨Tryd.f43, hint43, true, Tryd.func43, by kernel_rfl, link43⟩
 · cases h; exact ⟨Tryd.f44, hint44, true, Tryd.func44, by kernel_rfl, link44⟩
 · cases h; exact ⟨Tryd.f46, hint46, true, Tryd.func46, by kernel_rfl, link46⟩
 · cases h; exact ⟨Tryd.f47, hint47, true, Tryd.func47, by kernel_rfl, link47⟩
 · cases h; exact ⟨Tryd.f48, hint48, true, Tryd.func48, by kernel_rfl, link48⟩
 · cases h; exact ⟨Tryd.f49, hint49, true, Tryd.func49, by kernel_rfl, link49⟩
 · cases h; exact ⟨Tryd.f51, hint51, true, Tryd.func51, by kernel_rfl, link51⟩
 · cases h; exact ⟨Tryd.f54, hint54, true, Tryd.func54, by kernel_rfl, link54⟩
 · cases h; exact ⟨Tryd.f55, hint55, true, Tryd.func55, by kernel_rfl, link55⟩
 · cases h; exact ⟨Tryd.f59, hint59, true, Tryd.func59, by kernel_rfl, link59⟩
 · cases h; exact ⟨Tryd.f60, hint60, true, Tryd.func60, by kernel_rfl, link60⟩
 · cases h; exact ⟨Tryd.f63, hint63, true, Tryd.func63, by kernel_rfl, link63⟩
 · cases h; exact ⟨Tryd.f69, hint69, true, Tryd.func69, by kernel_rfl, link69⟩
 · cases h; exact ⟨Tryd.f82, hint82, true, Tryd.func82, by kernel_rfl, link82⟩
 · cases h; exact ⟨Tryd.f83, hint83, true, Tryd.func83, by kernel_rfl, link83⟩
 · cases h; exact ⟨Tryd.f90, hint90, true, Tryd.func90, by kernel_rfl, link90⟩
 · cases h; exact ⟨Tryd.f91, hint91, true, Tryd.func91, by kernel_rfl, link91⟩
 · cases h; exact ⟨Tryd.f92, hint92, true, Tryd.func92, by kernel_rfl, link92⟩
 · cases h; exact ⟨Tryd.f95, hint95, true, Tryd.func95, by kernel_rfl, link95⟩
 · cases h; exact ⟨Tryd.f96, hint96, true, Tryd.func96, by kernel_rfl, link96⟩
 · cases h; exact ⟨Tryd.f97, hint97, true, Tryd.func97, by kernel_rfl, link97⟩
 · cases h; exact ⟨Tryd.f98, hint98, true, Tryd.func98, by kernel_rfl, link98⟩
 · cases h
end Go.Proofs.YteaaelhndaijoaaDoor
