/- The functions that the law reaches as the evaluator takes them, and what they come to: printed by program. -/
import Derived.Test.YtamcbchinhdniaaGreatDoorChecked
import Derived.KernelRfl
import Derived.Test.YtamcbchinhdniaaGreatDoorAbs9
import Derived.Test.YtamcbchinhdniaaGreatDoorAbs3
set_option maxRecDepth 100000
set_option linter.unusedVariables false
namespace Go.Proofs.YtamcbchinhdniaaGreatDoor
open Go Go.Abs
def nm : FuncId → Option Nat := some
def imA (n c : Nat) : Bool := true
def imB (n c : Nat) : Bool := (Nat.beq n 8 && Nat.beq c 0) || (Nat.beq n 10 && Nat.beq c 6) || (Nat.beq n 10 && Nat.beq c 7) || (Nat.beq n 10 && Nat.beq c 8)
def noB (n : Nat) : Bool := (lkN [(92, true), (93, true), (94, true), (95, true)] n).isSome
def resT : Nat → Option RS := lkN [
 (4, (.val (.one (.bool)) [])),
 (5, (.val (.one (.ptr 0 0)) [[.tg 1, .int .i64]])),
 (6, (.val (.agg [.str, .im 1, .im 3]) [])),
 (7, (.val (.agg [.str, .im 3]) [])),
 (8, (.val (.one (.bool)) [])),
 (9, (.val (.one (.bool)) [])),
 (10, (.tup [(.agg [.im 3, .im 2, .im 4]), (.one (.int .i64)), (.one (.int .i64))] [])),
 (11, (.val (.one (.str)) [])),
 (12, (.val (.one (.str)) [])),
 (13, (.val (.one (.bool)) [])),
 (14, (.val (.one (.bool)) [])),
 (15, (.val (.one (.int .i64)) [])),
 (16, (.val (.agg [.str, .im 1, .im 3]) [])),
 (17, (.val (.agg [.str, .im 1, .im 3]) [])),
 (18, (.val (.one (.im 1)) [])),
 (19, (.val (.one (.im 4)) [])),
 (20, (.val (.one (.bool)) [])),
 (21, (.val (.one (.bool)) [])),
 (22, (.val (.one (.bool)) [])),
 (23, (.val (.agg [.str, .im 3]) [])),
 (24, (.val (.one (.bool)) [])),
 (25, (.tup [(.one (.im 3)), (.one (.int .i64)), (.one (.int .i64))] [])),
 (26, (.val (.one (.bool)) [])),
 (27, (.val (.one (.bool)) [])),
 (28, (.val (.agg [.str, .im 1, .im 3]) [])),
 (29, (.val (.agg [.str, .im 3]) [])),
 (30, (.val (.agg [.str, .im 3, .im 6, .im 10]) [])),
 (31, (.tup [] [])),
 (32, (.val (.one (.bool)) [])),
 (33, (.tup [(.one (.int .i64)), .ifc] [])),
 (34, (.val (.one (.str)) [])),
 (35, (.val (.one (.str)) [])),
 (36, (.val (.one .str) [[.bld 89, .dead]])),
 (37, (.val (.one (.str)) [])),
 (38, (.val (.one (.bool)) [])),
 (39, (.val (.one (.bool)) [])),
 (40, (.val (.one (.im 1)) [])),
 (41, (.val (.agg [.int .i64, .str]) [])),
 (42, (.val (.agg [.int .i64, .str]) [])),
 (43, (.val (.one (.bool)) [])),
 (44, (.val (.one (.bool)) [])),
 (45, (.val (.one (.bool)) [])),
 (46, (.val (.one (.int .i64)) [])),
 (47, (.val (.one (.bool)) [])),
 (48, (.val (.one (.bool)) [])),
 (49, (.val (.one (.bool)) [])),
 (50, (.val (.one (.int .i64)) [])),
 (51, (.val (.one (.bool)) [])),
 (52, (.val (.one (.bool)) [])),
 (53, (.val (.one (.bool)) [])),
 (54, (.val (.one (.bool)) [])),
 (55, (.tup [(.one (.str)), (.one (.int .i64)), (.one (.bool))] [])),
 (56, (.val (.one (.str)) [])),
 (57, (.val (.one (.bool)) [])),
 (58, (.val (.one (.str)) [])),
 (59, (.tup [] [])),
 (60, (.val (.one (.int .i64)) [])),
 (61, (.val (.one (.im 4)) [])),
 (62, (.val (.agg [.int .i64, .str]) [])),
 (63, (.val (.one (.int .i64)) [])),
 (64, (.tup [] [])),
 (65, (.val (.one (.str)) [])),
 (66, (.val (.one (.str)) [])),
 (67, (.tup [] [])),
 (68, (.tup [(.one (.str)), (.one (.str)), (.one (.bool))] [])),
 (69, (.tup [(.one (.int .i64)), .ifc] [])),
 (73, (.val (.one (.bool)) [])),
 (74, (.tup [(.one (.int .i64)), .ifc] [])),
 (75, (.tup [] [])),
 (77, (.val (.one (.str)) [])),
 (79, (.tup [(.one (.str)), (.one (.str)), (.one (.bool))] [])),
 (83, (.val (.one (.bool)) [])),
 (84, (.tup [] [])),
 (85, (.val (.one (.str)) [])),
 (86, (.val (.one (.int .i64)) [])),
 (90, (.val (.one (.int .i64)) [])),
 (96, (.val (.one (.int .i64)) [])),
 (97, (.val (.one (.im 1)) [])),
 (98, (.val (.one (.im 3)) [])),
 (99, (.val (.agg [.str, .str, .int .i64]) [])),
 (105, (.val (.one (.int .i64)) []))]
def hint3 : Hint := ⟨91, 11, [], [], [(0, (some [1, 0]), false), (1, (some [1, 0]), false), (2, (some []), false), (3, (some [1, 0]), false), (4, (some [1, 5]), false), (5, (some [6, 1]), false), (6, (some [7, 6]), false), (7, (some []), false), (8, (some [7, 6]), false), (9, (some [7, 8, 6, 9, 10]), false)]⟩
noncomputable def k3 : KFunc := kOf 8 (compF Tryz.prog nm hint3 Tryz.f3 true)
noncomputable def k3_b0 : KCode := k3.body.at_ [1, 1, 1, 1, 1, 1]
def an3 : Ann := ⟨lkN [(6, [.str, .im 1, .im 3]), (7, [.str, .im 3]), (22, [.str, .im 1, .im 3]), (26, [.str, .im 3]), (31, [.str, .im 3]), (34, [.str, .im 1, .im 3]), (8, [.im 3, .im 2, .im 4]), (49, [.im 3]), (55, [.im 2]), (61, [.im 4]), (67, [.im 3]), (69, [.str, .im 1, .im 3]), (70, [.str, .im 1, .im 3]), (75, [.im 2]), (78, [.str]), (83, [.im 2]), (86, [.im 3]), (88, [.im 3])], resT, imB, noB⟩
noncomputable def h3_0 (Cl : Oracle) (n : Nat) (bx : List (List C)) (m0 : Nat) (S : Go.Abs.St) : Option (V × List (List C)) := jumpK 0 (evCA an3 Cl n k3_b0) m0 S (retK [.slot 4] true bx)
def hint4 : Hint := ⟨65, 7, [], [], [(0, (some []), false), (1, (some []), false), (2, (some [1, 2, 3]), false), (3, (some [5, 6, 1, 2, 3]), false)]⟩
noncomputable def k4 : KFunc := kOf 8 (compF Tryz.prog nm hint4 Tryz.f4 true)
def an4 : Ann := ⟨lkN [(1, [.im 3, .im 2, .im 4]), (4, [.im 3, .im 2, .im 4]), (25, [.im 4]), (31, [.im 4]), (34, [.str]), (39, [.im 4]), (42, [.im 10]), (48, [.im 4]), (51, [.im 10]), (54, [.int .i64])], resT, imB, noB⟩
def hint5 : Hint := ⟨7, 3, [], [], [(0, (some [0]), false), (1, (some [0]), false)]⟩
noncomputable def k5 : KFunc := kOf 8 (compF Tryz.prog nm hint5 Tryz.f5 true)
def an5 : Ann := ⟨lkN [], resT, imB, noB⟩
def hint6 : Hint := ⟨34, 7, [6], [], [(0, (some [2, 1, 0]), false), (1, (some [6, 2, 1, 0]), false), (2, (some [6, 2, 1, 0, 8]), false), (3, (some [6, 2, 1, 0]), false), (4, (some [6, 2, 0, 1, 8]), false), (5, (some [6, 2, 0, 1]), false), (6, (some [6, 2, 1, 0, 8]), false), (7, (some [6, 2, 1, 0]), false), (8, (some [6, 2, 1, 0]), false)]⟩
noncomputable def k6 : KFunc := kOf 8 (compF Tryz.prog nm hint6 Tryz.f6 true)
def an6 : Ann := ⟨lkN [(6, [.str, .im 1, .im 3]), (6, [.str, .im 1, .im 3]), (6, [.str, .im 1, .im 3]), (6, [.str, .im 1, .im 3])], resT, imB, noB⟩
def hint7 : Hint := ⟨55, 12, [6], [], [(0, (some [2, 0, 1]), false), (1, (some [2, 0, 6, 1]), false), (2, (some [7, 2, 0, 6, 1]), false), (3, (some [7, 2, 0, 8, 6, 1]), false), (4, (some [9, 7, 2, 0, 8, 6]), false), (5, (some [9, 7, 2, 0, 8, 6, 10]), true), (7, (some [9, 7, 2, 0, 8, 6, 10]), false), (8, (some [9, 7, 2, 0, 8, 6, 10, 11]), false), (9, (some [9, 7, 2, 0, 8, 6, 10]), false), (10, (some [9, 7, 2, 0, 8, 6, 10, 11]), false), (6, (some [9, 7, 2, 0, 8, 6, 10]), false), (11, (some [6, 9]), false)]⟩
noncomputable def k7 : KFunc := kOf 8 (compF Tryz.prog nm hint7 Tryz.f7 true)
noncomputable def k7_c0 : KCode := k7.body.at_ [1, 1, 1, 1, 1]
noncomputable def k7_b1 : KCode := k7.body.at_ [1, 1, 1, 1, 0, 1, 0, 0, 1, 1]
noncomputable def k7_b0 : KCode := k7.body.at_ [1, 1, 1, 1, 0, 1, 0, 0]
def an7 : Ann := ⟨lkN [(9, [.str, .im 3]), (30, [.im 3]), (34, [.im 3]), (36, [.im 3]), (45, [.str]), (53, [.im 3]), (54, [.str, .im 3]), (6, [.str, .im 3])], resT, imB, noB⟩
noncomputable def h7_0 (Cl : Oracle) (n : Nat) (bx : List (List C)) (m0 : Nat) (S : Go.Abs.St) : Option (V × List (List C)) := iterK 0 (evCA an7 Cl n k7_b0) (some [9, 7, 2, 0, 8, 6, 10]) true m0 S (blockK 0 (seqK (evCA an7 Cl n k7_c0) (retK [.cell 6 2 true] true bx)))
noncomputable def h7_1 (Cl : Oracle) (n : Nat) (bx : List (List C)) (m0 : Nat) (m1 : Nat) (S : Go.Abs.St) : Option (V × List (List C)) := jumpK 1 (evCA an7 Cl n k7_b1) m1 S (nextK (some [9, 7, 2, 0, 8, 6, 10]) true (h7_0 Cl n bx m0) (blockK 0 (seqK (evCA an7 Cl n k7_c0) (retK [.cell 6 2 true] true bx))))
def hint8 : Hint := ⟨92, 7, [], [], [(0, (some [0]), false), (1, (some [1]), false), (2, (some []), false), (3, (some [1]), false), (4, (some [36, 1, 37, 38]), true), (5, (some [36, 1, 37, 38]), false), (6, (some [36, 1, 37, 38, 4]), false), (7, (some []), false), (8, (some [36, 1, 37, 38]), false), (9, (some [1]), false), (10, (some [1, 47, 48, 49]), true), (11, (some [1, 47, 48, 49]), false), (12, (some [1, 47, 48, 49, 6]), false), (13, (some [1, 47, 48, 49, 6]), false), (14, (some []), false), (15, (some [1, 47, 48, 49]), false), (16, (some [1]), false)]⟩
noncomputable def k8 : KFunc := kOf 8 (compF Tryz.prog nm hint8 Tryz.f8 true)
noncomputable def k8_c0 : KCode := k8.body.at_ [1, 1, 1, 1]
noncomputable def k8_c1 : KCode := k8.body.at_ [1, 1, 1, 0, 1, 0, 0, 1, 1, 1]
noncomputable def k8_b1 : KCode := k8.body.at_ [1, 1, 1, 0, 1, 0, 0, 1, 1, 0, 0, 1, 1]
noncomputable def k8_b0 : KCode := k8.body.at_ [1, 1, 1, 0, 1, 0, 0]
noncomputable def k8_c2 : KCode := k8.body.at_ [1, 1, 1]
noncomputable def k8_b2 : KCode := k8.body.at_ [1, 1, 0, 1, 0, 0]
noncomputable def k8_b3 : KCode := k8.body.at_ [1, 1]
def an8 : Ann := ⟨lkN [(8, [.str]), (13, [.im 1]), (19, [.im 1]), (25, [.im 1]), (31, [.im 3]), (36, [.im 1]), (41, [.str]), (47, [.im 3]), (52, [.str, .str, .im 4]), (6, [.str, .str, .im 4]), (54, [.str]), (58, [.str]), (63, [.im 4]), (68, [.im 1]), (70, [.str]), (75, [.im 1]), (77, [.str]), (83, [.str]), (85, [.str]), (89, [.str, .im 1, .im 3])], resT, imA, noB⟩
noncomputable def h8_0 (Cl : Oracle) (n : Nat) (bx : List (List C)) (m0 : Nat) (S : Go.Abs.St) : Option (V × List (List C)) := iterK 0 (evCA an8 Cl n k8_b0) (some [1, 47, 48, 49]) true m0 S (blockK 2 (seqK (evCA an8 Cl n k8_c0) (retK [.slot 2] true bx)))
noncomputable def h8_1 (Cl : Oracle) (n : Nat) (bx : List (List C)) (m0 : Nat) (m1 : Nat) (S : Go.Abs.St) : Option (V × List (List C)) := jumpK 1 (evCA an8 Cl n k8_b1) m1 S (blockK 3 (seqK (evCA an8 Cl n k8_c1) (nextK (some [1, 47, 48, 49]) true (h8_0 Cl n bx m0) (blockK 2 (seqK (evCA an8 Cl n k8_c0) (retK [.slot 2] true bx))))))
noncomputable def h8_2 (Cl : Oracle) (n : Nat) (bx : List (List C)) (m2 : Nat) (S : Go.Abs.St) : Option (V × List (List C)) := iterK 2 (evCA an8 Cl n k8_b2) (some [36, 1, 37, 38]) true m2 S (blockK 0 (seqK (evCA an8 Cl n k8_c2) (retK [.slot 2] true bx)))
noncomputable def h8_3 (Cl : Oracle) (n : Nat) (bx : List (List C)) (m3 : Nat) (S : Go.Abs.St) : Option (V × List (List C)) := jumpK 3 (evCA an8 Cl n k8_b3) m3 S (retK [.slot 2] true bx)
def hint9 : Hint := ⟨52, 5, [], [], [(0, (some [0]), false), (1, (some [1]), false), (2, (some []), false), (3, (some [1]), false), (4, (some [1, 16, 17, 18]), true), (5, (some [1, 16, 17, 18]), false), (6, (some [1, 16, 17, 18, 4]), false), (8, (some [1, 16, 17, 18, 4, 23]), false), (9, (some [1, 16, 17, 18, 4]), false), (10, (some []), false), (11, (some [1, 16, 17, 18, 4, 23]), false), (12, (some [1, 16, 17, 18, 4, 23]), false), (13, (some [1, 16, 17, 18, 4]), false), (14, (some []), false), (7, (some []), false), (15, (some [1, 16, 17, 18]), false), (16, (some []), false)]⟩
noncomputable def k9 : KFunc := kOf 8 (compF Tryz.prog nm hint9 Tryz.f9 true)
noncomputable def k9_c0 : KCode := k9.body.at_ [1, 1, 1]
noncomputable def k9_b1 : KCode := k9.body.at_ [1, 1, 0, 1, 0, 0, 1, 1, 1]
noncomputable def k9_b0 : KCode := k9.body.at_ [1, 1, 0, 1, 0, 0]
noncomputable def k9_b2 : KCode := k9.body.at_ [1, 1]
def an9 : Ann := ⟨lkN [(6, [.im 3]), (11, [.im 3]), (16, [.im 3]), (21, [.int .i64, .str, .im 4]), (4, [.int .i64, .str, .im 4]), (23, [.int .i64]), (27, [.str]), (31, [.im 4]), (39, [.str]), (44, [.im 4]), (46, [.im 3])], resT, imA, noB⟩
noncomputable def h9_0 (Cl : Oracle) (n : Nat) (bx : List (List C)) (m0 : Nat) (S : Go.Abs.St) : Option (V × List (List C)) := iterK 0 (evCA an9 Cl n k9_b0) (some [1, 16, 17, 18]) true m0 S (blockK 0 (seqK (evCA an9 Cl n k9_c0) (retK [.slot 2] true bx)))
noncomputable def h9_1 (Cl : Oracle) (n : Nat) (bx : List (List C)) (m0 : Nat) (m1 : Nat) (S : Go.Abs.St) : Option (V × List (List C)) := jumpK 1 (evCA an9 Cl n k9_b1) m1 S (nextK (some [1, 16, 17, 18]) true (h9_0 Cl n bx m0) (blockK 0 (seqK (evCA an9 Cl n k9_c0) (retK [.slot 2] true bx))))
noncomputable def h9_2 (Cl : Oracle) (n : Nat) (bx : List (List C)) (m2 : Nat) (S : Go.Abs.St) : Option (V × List (List C)) := jumpK 2 (evCA an9 Cl n k9_b2) m2 S (retK [.slot 2] true bx)
def hint10 : Hint := ⟨81, 10, [2], [], [(0, (some [0]), false), (1, (some [2, 0]), false), (2, (some [2, 6, 0, 5, 7]), false), (3, (some [2, 6]), false), (4, (some [2, 0, 5]), false), (5, (some [8, 2]), false), (6, (some [9, 8, 2]), true), (8, (some [9, 8, 2]), false), (9, (some [9, 8, 2]), false), (10, (some [9, 8, 2]), false), (11, (some [9, 8, 2]), false), (12, (some [9, 8, 2]), false), (13, (some [9, 8, 2]), false), (7, (some [9, 8, 2]), false), (14, (some [2, 8, 9]), false), (15, (some [2, 8]), false), (16, (some [2, 9]), false)]⟩
noncomputable def k10 : KFunc := kOf 8 (compF Tryz.prog nm hint10 Tryz.f10 true)
noncomputable def k10_c0 : KCode := k10.body.at_ [1, 1, 1, 1, 1, 1]
noncomputable def k10_b0 : KCode := k10.body.at_ [1, 1, 1, 1, 1, 0, 0, 0]
def an10 : Ann := ⟨lkN [(2, [.im 3, .im 2, .im 4]), (40, [.im 3]), (45, [.im 3]), (52, [.im 2]), (57, [.im 2]), (64, [.im 4]), (69, [.im 4]), (79, [.int .i64]), (2, [.im 3, .im 2, .im 4]), (80, [.im 3, .im 2, .im 4]), (2, [.im 3, .im 2, .im 4])], resT, imB, noB⟩
noncomputable def h10_0 (Cl : Oracle) (n : Nat) (bx : List (List C)) (m0 : Nat) (S : Go.Abs.St) : Option (V × List (List C)) := iterK 0 (evCA an10 Cl n k10_b0) (some [9, 8, 2]) true m0 S (blockK 0 (seqK (evCA an10 Cl n k10_c0) (retK [.cell 2 3 true, .slot 3, .slot 4] true bx)))
def hint11 : Hint := ⟨72, 6, [], [], [(0, (some [0]), false), (1, (some [1]), false), (2, (some []), false), (3, (some [1]), false), (4, (some [3, 1]), false), (5, (some [3, 1]), false), (6, (some [3, 24, 25, 26]), true), (7, (some [3, 24, 25, 26]), false), (8, (some [3, 24, 25, 26, 5, 4]), false), (9, (some [3, 24, 25, 26, 5]), false), (10, (some [3, 24, 25, 26, 5, 38]), false), (11, (some [3, 24, 25, 26]), false), (12, (some [3, 24, 25, 26, 5, 38]), false), (13, (some [3, 24, 25, 26, 5]), false), (14, (some [3, 24, 25, 26, 5, 38]), false), (15, (some [3, 24, 25, 26, 5]), false), (16, (some [3, 24, 25, 26]), false), (17, (some [3]), false), (18, (some [3]), false)]⟩
noncomputable def k11 : KFunc := kOf 8 (compF Tryz.prog nm hint11 Tryz.f11 true)
noncomputable def k11_c0 : KCode := k11.body.at_ [1, 1, 1, 1, 1]
noncomputable def k11_b0 : KCode := k11.body.at_ [1, 1, 1, 1, 0, 1, 0, 0]
noncomputable def k11_b1 : KCode := k11.body.at_ [1, 1]
def an11 : Ann := ⟨lkN [(6, [.str, .im 3]), (11, [.str]), (19, [.str]), (24, [.im 3]), (30, [.int .i64, .str, .im 4]), (5, [.int .i64, .str, .im 4]), (38, [.int .i64]), (47, [.str]), (50, [.im 4]), (59, [.str]), (62, [.im 4])], resT, imA, noB⟩
noncomputable def h11_0 (Cl : Oracle) (n : Nat) (bx : List (List C)) (m0 : Nat) (S : Go.Abs.St) : Option (V × List (List C)) := iterK 0 (evCA an11 Cl n k11_b0) (some [3, 24, 25, 26]) true m0 S (blockK 0 (seqK (evCA an11 Cl n k11_c0) (retK [.slot 2] true bx)))
noncomputable def h11_1 (Cl : Oracle) (n : Nat) (bx : List (List C)) (m1 : Nat) (S : Go.Abs.St) : Option (V × List (List C)) := jumpK 1 (evCA an11 Cl n k11_b1) m1 S (retK [.slot 2] true bx)
def hint12 : Hint := ⟨60, 6, [], [], [(0, (some [0]), false), (1, (some [1]), false), (2, (some []), false), (3, (some [1]), false), (4, (some [3, 1]), false), (5, (some [3, 1]), false), (6, (some [3, 23, 24, 25]), true), (7, (some [3, 23, 24, 25]), false), (8, (some [3, 23, 24, 25, 5, 4]), false), (9, (some [3, 23, 24, 25, 5]), false), (10, (some [3, 23, 24, 25]), false), (11, (some [3, 23, 24, 25, 5]), false), (12, (some [3, 23, 24, 25]), false), (13, (some [3]), false), (14, (some [3]), false)]⟩
noncomputable def k12 : KFunc := kOf 8 (compF Tryz.prog nm hint12 Tryz.f12 true)
noncomputable def k12_c0 : KCode := k12.body.at_ [1, 1, 1, 1, 1]
noncomputable def k12_b0 : KCode := k12.body.at_ [1, 1, 1, 1, 0, 1, 0, 0]
def an12 : Ann := ⟨lkN [(6, [.str, .im 1, .im 3]), (13, [.str]), (17, [.im 1]), (23, [.im 3]), (29, [.str, .str, .im 4]), (5, [.str, .str, .im 4]), (37, [.im 4]), (44, [.str]), (47, [.str]), (50, [.im 4])], resT, imB, noB⟩
noncomputable def h12_0 (Cl : Oracle) (n : Nat) (bx : List (List C)) (m0 : Nat) (S : Go.Abs.St) : Option (V × List (List C)) := iterK 0 (evCA an12 Cl n k12_b0) (some [3, 23, 24, 25]) true m0 S (blockK 0 (seqK (evCA an12 Cl n k12_c0) (retK [.slot 2] true bx)))
def hint13 : Hint := ⟨79, 6, [], [], [(0, (some [1, 0]), false), (1, (some [3, 2]), false), (2, (some []), false), (3, (some [3, 2]), false), (4, (some [3, 2, 5]), true), (6, (some [3, 2, 5]), false), (7, (some []), false), (5, (some [3, 2, 5]), false), (8, (some []), false)]⟩
noncomputable def k13 : KFunc := kOf 8 (compF Tryz.prog nm hint13 Tryz.f13 true)
noncomputable def k13_c0 : KCode := k13.body.at_ [1, 1, 1]
noncomputable def k13_b0 : KCode := k13.body.at_ [1, 1, 0, 1, 0, 0]
noncomputable def k13_b1 : KCode := k13.body.at_ [1, 1]
def an13 : Ann := ⟨lkN [(7, [.str]), (9, [.str]), (13, [.im 1]), (15, [.im 1]), (21, [.im 3]), (24, [.im 3]), (30, [.im 3]), (36, [.im 3]), (40, [.str]), (42, [.im 3]), (46, [.str]), (50, [.im 3]), (54, [.str]), (56, [.im 3]), (60, [.str]), (65, [.im 3]), (69, [.im 4]), (71, [.im 3]), (75, [.im 4])], resT, imB, noB⟩
noncomputable def h13_0 (Cl : Oracle) (n : Nat) (bx : List (List C)) (m0 : Nat) (S : Go.Abs.St) : Option (V × List (List C)) := iterK 0 (evCA an13 Cl n k13_b0) (some [3, 2, 5]) true m0 S (blockK 0 (seqK (evCA an13 Cl n k13_c0) (retK [.slot 4] true bx)))
noncomputable def h13_1 (Cl : Oracle) (n : Nat) (bx : List (List C)) (m1 : Nat) (S : Go.Abs.St) : Option (V × List (List C)) := jumpK 1 (evCA an13 Cl n k13_b1) m1 S (retK [.slot 4] true bx)
def hint14 : Hint := ⟨55, 6, [], [], [(0, (some [1, 0]), false), (1, (some [1, 0]), false), (2, (some []), false), (3, (some [1, 0]), false), (4, (some [1, 0, 5]), true), (6, (some [1, 0, 5]), false), (7, (some []), false), (5, (some [1, 0, 5]), false), (8, (some []), false)]⟩
noncomputable def k14 : KFunc := kOf 8 (compF Tryz.prog nm hint14 Tryz.f14 true)
noncomputable def k14_c0 : KCode := k14.body.at_ [1, 1, 1]
noncomputable def k14_b0 : KCode := k14.body.at_ [1, 1, 0, 1, 0, 0]
def an14 : Ann := ⟨lkN [(21, [.int .i64]), (26, [.int .i64]), (33, [.str]), (38, [.str]), (46, [.im 4]), (51, [.im 4])], resT, imB, noB⟩
noncomputable def h14_0 (Cl : Oracle) (n : Nat) (bx : List (List C)) (m0 : Nat) (S : Go.Abs.St) : Option (V × List (List C)) := iterK 0 (evCA an14 Cl n k14_b0) (some [1, 0, 5]) true m0 S (blockK 0 (seqK (evCA an14 Cl n k14_c0) (retK [.slot 4] true bx)))
def hint15 : Hint := ⟨42, 5, [], [], [(0, (some [1, 0]), false), (1, (some [1, 0]), false), (2, (some []), false), (3, (some [1, 0]), false), (4, (some [1, 0]), false)]⟩
noncomputable def k15 : KFunc := kOf 8 (compF Tryz.prog nm hint15 Tryz.f15 true)
noncomputable def k15_b0 : KCode := k15.body.at_ [1, 1]
def an15 : Ann := ⟨lkN [(11, [.int .i64]), (15, [.im 1]), (22, [.int .i64]), (25, [.int .i64]), (29, [.im 1]), (33, [.int .i64]), (36, [.int .i64])], resT, imB, noB⟩
noncomputable def h15_0 (Cl : Oracle) (n : Nat) (bx : List (List C)) (m0 : Nat) (S : Go.Abs.St) : Option (V × List (List C)) := jumpK 0 (evCA an15 Cl n k15_b0) m0 S (retK [.slot 4] true bx)
def hint16 : Hint := ⟨68, 14, [8], [], [(0, (some [3, 0, 2, 1]), false), (1, (some [3, 0, 2, 8, 1]), false), (2, (some [9, 3, 0, 2, 8, 1]), false), (3, (some [10, 9, 3, 0, 2, 8]), false), (4, (some [10, 9, 3, 0, 2, 8, 11]), true), (6, (some [10, 9, 3, 0, 2, 8, 11]), false), (7, (some [10, 9, 3, 0, 2, 8, 11, 12]), false), (8, (some [10, 9, 3, 0, 2, 8, 11, 13, 12]), false), (5, (some [10, 9, 3, 0, 2, 8, 11]), false), (9, (some [8, 10]), false), (10, (some [8, 10]), false)]⟩
noncomputable def k16 : KFunc := kOf 8 (compF Tryz.prog nm hint16 Tryz.f16 true)
noncomputable def k16_c0 : KCode := k16.body.at_ [1, 1, 1, 1]
noncomputable def k16_b0 : KCode := k16.body.at_ [1, 1, 1, 0, 1, 0, 0]
noncomputable def k16_b1 : KCode := k16.body.at_ [1, 1, 1]
def an16 : Ann := ⟨lkN [(10, [.str, .im 1, .im 3]), (41, [.im 3]), (43, [.im 1]), (46, [.str]), (48, [.im 1]), (51, [.str]), (60, [.im 3]), (62, [.im 3]), (66, [.im 3]), (67, [.str, .im 1, .im 3]), (8, [.str, .im 1, .im 3])], resT, imB, noB⟩
noncomputable def h16_0 (Cl : Oracle) (n : Nat) (bx : List (List C)) (m0 : Nat) (S : Go.Abs.St) : Option (V × List (List C)) := iterK 0 (evCA an16 Cl n k16_b0) (some [10, 9, 3, 0, 2, 8, 11]) true m0 S (blockK 0 (seqK (evCA an16 Cl n k16_c0) (retK [.cell 8 3 true] true bx)))
noncomputable def h16_1 (Cl : Oracle) (n : Nat) (bx : List (List C)) (m1 : Nat) (S : Go.Abs.St) : Option (V × List (List C)) := jumpK 1 (evCA an16 Cl n k16_b1) m1 S (retK [.cell 8 3 true] true bx)
def hint17 : Hint := ⟨174, 18, [8], [], [(0, (some [3, 0, 2, 1]), false), (1, (some [3, 0, 8, 2, 1]), false), (2, (some [9, 3, 0, 8, 2]), false), (3, (some [9, 3, 0, 10, 11, 8, 2]), false), (4, (some [9, 3, 0, 10, 11, 8, 2, 12]), false), (5, (some [9, 3, 0, 10, 11, 8, 2, 12, 13]), false), (6, (some [9, 3, 0, 10, 11, 8, 2, 12]), false), (7, (some [9, 3, 0, 10, 11, 8, 2, 12, 14]), true), (9, (some [9, 3, 0, 10, 11, 8, 2, 12, 14]), false), (8, (some [9, 3, 0, 10, 11, 8, 2, 12, 14]), false), (10, (some [9, 11, 8, 2, 0, 12]), false), (11, (some [9, 11, 8, 2, 0]), false), (12, (some [9, 11, 8, 2]), false), (13, (some [9, 11, 8, 2, 15]), false), (14, (some [9, 11, 8, 2]), false), (15, (some [9, 11, 8, 2, 16]), false), (16, (some [9, 11, 8, 2]), false), (17, (some [9, 11, 8, 2, 17]), true), (19, (some [9, 11, 8, 2, 17]), false), (18, (some [9, 11, 8, 2, 17]), false), (20, (some [8, 9]), false), (21, (some [8, 9]), false)]⟩
noncomputable def k17 : KFunc := kOf 8 (compF Tryz.prog nm hint17 Tryz.f17 true)
noncomputable def k17_b1 : KCode := k17.body.at_ [1, 1, 1, 1, 1, 1, 1, 1]
noncomputable def k17_c1 : KCode := k17.body.at_ [1, 1, 1, 1, 1, 1, 1]
noncomputable def k17_b2 : KCode := k17.body.at_ [1, 1, 1, 1, 1, 1, 0, 1, 0, 0]
noncomputable def k17_b3 : KCode := k17.body.at_ [1, 1, 1, 1, 1, 1]
noncomputable def k17_b4 : KCode := k17.body.at_ [1, 1]
def an17 : Ann := ⟨lkN [(9, [.str, .im 1, .im 3]), (28, [.str]), (34, [.str]), (13, [.int .i64, .str]), (41, [.im 3]), (43, [.im 1]), (45, [.str]), (47, [.im 1]), (49, [.str]), (51, [.int .i64, .str]), (59, [.im 3]), (67, [.im 3]), (69, [.im 1]), (72, [.str]), (74, [.im 1]), (78, [.str]), (84, [.im 3]), (92, [.im 3]), (95, [.im 3]), (97, [.im 1]), (101, [.str]), (103, [.im 1]), (105, [.str]), (113, [.im 3]), (115, [.im 3]), (119, [.im 3]), (123, [.own 4]), (125, [.int .i64]), (127, [.im 3]), (130, [.im 3]), (133, [.own 4]), (136, [.int .i64]), (144, [.im 3]), (146, [.im 1]), (149, [.str]), (151, [.im 1]), (155, [.str]), (158, [.im 3]), (166, [.im 3]), (168, [.im 3]), (172, [.im 3]), (173, [.str, .im 1, .im 3]), (8, [.str, .im 1, .im 3])], resT, imB, noB⟩
noncomputable def h17_1 (Cl : Oracle) (n : Nat) (bx : List (List C)) (m1 : Nat) (S : Go.Abs.St) : Option (V × List (List C)) := jumpK 1 (evCA an17 Cl n k17_b1) m1 S (retK [.cell 8 3 true] true bx)
noncomputable def h17_2 (Cl : Oracle) (n : Nat) (bx : List (List C)) (m2 : Nat) (S : Go.Abs.St) : Option (V × List (List C)) := iterK 2 (evCA an17 Cl n k17_b2) (some [9, 3, 0, 10, 11, 8, 2, 12, 14]) true m2 S (blockK 0 (seqK (evCA an17 Cl n k17_c1) (retK [.cell 8 3 true] true bx)))
noncomputable def h17_3 (Cl : Oracle) (n : Nat) (bx : List (List C)) (m3 : Nat) (S : Go.Abs.St) : Option (V × List (List C)) := jumpK 3 (evCA an17 Cl n k17_b3) m3 S (retK [.cell 8 3 true] true bx)
noncomputable def h17_4 (Cl : Oracle) (n : Nat) (bx : List (List C)) (m4 : Nat) (S : Go.Abs.St) : Option (V × List (List C)) := jumpK 4 (evCA an17 Cl n k17_b4) m4 S (retK [.cell 8 3 true] true bx)
def hint18 : Hint := ⟨2, 1, [], [], [(0, (some []), false), (1, (some []), false)]⟩
noncomputable def k18 : KFunc := kOf 8 (compF Tryz.prog nm hint18 Tryz.f18 true)
def an18 : Ann := ⟨lkN [], resT, imB, noB⟩
def hint19 : Hint := ⟨39, 11, [], [], [(0, (some [2, 0, 1]), false), (1, (some [2, 0, 1]), false), (2, (some [2, 0, 1, 7]), false), (3, (some [2, 0, 1, 7, 8]), false), (4, (some [2, 0, 1, 9, 7, 8]), false), (5, (some [2, 0, 1, 9, 8, 10, 7]), true), (7, (some [2, 0, 1, 9, 8, 10, 7]), false), (6, (some [2, 0, 1, 9, 7, 8, 10]), false), (8, (some [7]), false)]⟩
noncomputable def k19 : KFunc := kOf 8 (compF Tryz.prog nm hint19 Tryz.f19 true)
noncomputable def k19_c0 : KCode := k19.body.at_ [1, 1, 1, 1, 1]
noncomputable def k19_b0 : KCode := k19.body.at_ [1, 1, 1, 1, 0, 1, 0, 0]
def an19 : Ann := ⟨lkN [(28, [.str])], resT, imB, noB⟩
noncomputable def h19_0 (Cl : Oracle) (n : Nat) (bx : List (List C)) (m0 : Nat) (S : Go.Abs.St) : Option (V × List (List C)) := iterK 0 (evCA an19 Cl n k19_b0) (some [2, 0, 1, 9, 8, 10, 7]) true m0 S (blockK 0 (seqK (evCA an19 Cl n k19_c0) (retK [.slot 6] true bx)))
def hint20 : Hint := ⟨40, 4, [], [], [(0, (some [0]), false), (1, (some [0]), false), (2, (some []), false), (3, (some [0]), false), (4, (some [0, 3]), true), (6, (some [0, 3]), false), (7, (some []), false), (5, (some [0, 3]), false), (8, (some []), false)]⟩
noncomputable def k20 : KFunc := kOf 8 (compF Tryz.prog nm hint20 Tryz.f20 true)
def hint21 : Hint := ⟨18, 4, [], [], [(0, (some [0]), false), (1, (some [0]), false), (2, (some [0, 5, 6]), true), (3, (some [0, 5, 6]), false), (4, (some [0, 5, 6, 3]), false), (5, (some []), false), (6, (some [0, 5, 6]), false), (7, (some []), false)]⟩
noncomputable def k21 : KFunc := kOf 8 (compF Tryz.prog nm hint21 Tryz.f21 true)
def hint22 : Hint := ⟨9, 5, [], [], [(0, (some [1, 0]), false), (1, (some [1, 0]), false)]⟩
noncomputable def k22 : KFunc := kOf 8 (compF Tryz.prog nm hint22 Tryz.f22 true)
def hint23 : Hint := ⟨43, 7, [2], [], [(0, (some [0]), false), (1, (some [2, 1]), false), (2, (some [3, 2, 1]), false), (3, (some [3, 8, 2, 9, 10]), true), (4, (some [3, 8, 2, 9, 10]), false), (5, (some [3, 8, 2, 9, 10, 5]), false), (6, (some [3, 8, 2, 9, 10, 6, 5]), false), (7, (some [3, 8, 2, 9, 10, 6, 5]), false), (8, (some [3, 8, 2, 9, 10, 6, 5]), false), (9, (some [3, 8, 2, 9, 10, 6]), false), (10, (some [3, 8, 2, 9, 10]), false), (11, (some [2, 3]), false)]⟩
noncomputable def k23 : KFunc := kOf 8 (compF Tryz.prog nm hint23 Tryz.f23 true)
noncomputable def k23_c0 : KCode := k23.body.at_ [1, 1, 1]
noncomputable def k23_c1 : KCode := k23.body.at_ [1, 1, 0, 1, 0, 0, 1, 1, 1]
noncomputable def k23_b1 : KCode := k23.body.at_ [1, 1, 0, 1, 0, 0, 1, 1, 0, 0, 1, 1, 1]
noncomputable def k23_b0 : KCode := k23.body.at_ [1, 1, 0, 1, 0, 0]
def an23 : Ann := ⟨lkN [(8, [.im 3]), (13, [.str, .str, .im 4]), (5, [.str, .str, .im 4]), (15, [.im 4]), (6, [.int .i64, .str, .im 4]), (18, [.str]), (22, [.str]), (27, [.im 4]), (31, [.int .i64]), (33, [.str]), (34, [.str]), (36, [.im 3]), (37, [.int .i64, .str, .im 4]), (40, [.im 3]), (42, [.str, .im 3]), (2, [.str, .im 3])], resT, imB, noB⟩
noncomputable def h23_0 (Cl : Oracle) (n : Nat) (bx : List (List C)) (m0 : Nat) (S : Go.Abs.St) : Option (V × List (List C)) := iterK 0 (evCA an23 Cl n k23_b0) (some [3, 8, 2, 9, 10]) true m0 S (blockK 0 (seqK (evCA an23 Cl n k23_c0) (retK [.cell 2 2 true] true bx)))
noncomputable def h23_1 (Cl : Oracle) (n : Nat) (bx : List (List C)) (m0 : Nat) (m1 : Nat) (S : Go.Abs.St) : Option (V × List (List C)) := jumpK 1 (evCA an23 Cl n k23_b1) m1 S (blockK 1 (seqK (evCA an23 Cl n k23_c1) (nextK (some [3, 8, 2, 9, 10]) true (h23_0 Cl n bx m0) (blockK 0 (seqK (evCA an23 Cl n k23_c0) (retK [.cell 2 2 true] true bx))))))
def hint24 : Hint := ⟨54, 8, [], [], [(0, (some [1, 0]), false), (1, (some [1, 0]), false), (2, (some []), false), (3, (some [1, 0]), false), (4, (some [5, 1, 0]), false), (5, (some [5, 1, 17, 18, 19]), true), (6, (some [5, 1, 17, 18, 19]), false), (7, (some [5, 1, 17, 18, 19, 7]), false), (8, (some []), false), (9, (some [5, 1, 17, 18, 19, 7]), false), (10, (some [5, 1, 17, 18, 19]), false), (11, (some []), false)]⟩
noncomputable def k24 : KFunc := kOf 8 (compF Tryz.prog nm hint24 Tryz.f24 true)
noncomputable def k24_c0 : KCode := k24.body.at_ [1, 1, 1, 1]
noncomputable def k24_b0 : KCode := k24.body.at_ [1, 1, 1, 0, 1, 0, 0]
noncomputable def k24_b1 : KCode := k24.body.at_ [1, 1]
def an24 : Ann := ⟨lkN [(22, [.str, .int .i64, .str, .int .i64]), (7, [.str, .int .i64, .str, .int .i64]), (24, [.str]), (30, [.str]), (35, [.int .i64, .str]), (41, [.int .i64]), (46, [.int .i64]), (52, [.str])], resT, imB, noB⟩
noncomputable def h24_0 (Cl : Oracle) (n : Nat) (bx : List (List C)) (m0 : Nat) (S : Go.Abs.St) : Option (V × List (List C)) := iterK 0 (evCA an24 Cl n k24_b0) (some [5, 1, 17, 18, 19]) true m0 S (blockK 0 (seqK (evCA an24 Cl n k24_c0) (retK [.slot 4] true bx)))
noncomputable def h24_1 (Cl : Oracle) (n : Nat) (bx : List (List C)) (m1 : Nat) (S : Go.Abs.St) : Option (V × List (List C)) := jumpK 1 (evCA an24 Cl n k24_b1) m1 S (retK [.slot 4] true bx)
def hint25 : Hint := ⟨146, 15, [], [], [(0, (some [0]), false), (1, (some [0]), false), (2, (some []), false), (3, (some [0]), false), (4, (some [0, 5]), false), (5, (some [0, 5, 6]), true), (6, (some [0, 5, 6]), false), (7, (some [0, 5, 6, 7]), false), (8, (some [0, 5, 6, 8, 7]), false), (9, (some [0, 5, 6, 8, 7, 9]), false), (15, (some [0, 5, 6, 8, 7, 9]), false), (16, (some [0, 5, 6]), false), (17, (some [0, 5, 6, 8, 7, 9]), false), (18, (some [0, 5, 6]), false), (19, (some [0, 8, 5, 6, 7, 9]), false), (20, (some [0, 8, 5, 6]), false), (21, (some [0, 8, 5, 6]), false), (22, (some [6, 0, 8, 5, 7, 9]), false), (23, (some [6, 0, 8, 5]), false), (24, (some [6, 0, 8, 5]), false), (25, (some [6, 0, 10, 8, 5]), false), (26, (some [6]), false), (27, (some [6, 0, 8, 5, 7]), false), (28, (some [6, 0, 8, 5]), false), (29, (some [6, 0, 12, 8, 5, 11, 13]), false), (30, (some [6]), false), (31, (some [0, 12, 8, 5, 11]), false), (32, (some [0, 12, 8, 5, 11]), false), (33, (some [0, 12, 8, 5]), false), (34, (some [0, 5, 12]), false), (10, (some [6, 0, 8, 5]), false), (11, (some [6, 0, 8, 5, 14]), false), (12, (some [6]), false), (13, (some [0, 8, 5, 6, 14]), false), (14, (some [0, 8, 5, 6, 14]), false), (35, (some [0, 10, 8, 5, 6]), false), (36, (some [0, 10, 8, 5]), false), (37, (some [0, 5, 10]), false), (38, (some [5]), false)]⟩
noncomputable def k25 : KFunc := kOf 8 (compF Tryz.prog nm hint25 Tryz.f25 true)
noncomputable def k25_c0 : KCode := k25.body.at_ [1, 1, 1, 1, 1]
noncomputable def k25_b1 : KCode := k25.body.at_ [1, 1, 1, 1, 0, 0, 0, 1, 0, 1, 1, 1, 1, 1]
noncomputable def k25_b2 : KCode := k25.body.at_ [1, 1, 1, 1, 0, 0, 0, 1, 0, 1, 1, 1]
noncomputable def k25_b0 : KCode := k25.body.at_ [1, 1, 1, 1, 0, 0, 0]
def an25 : Ann := ⟨lkN [(8, [.int .i64, .str, .int .i64]), (53, [.int .i64, .str, .int .i64]), (92, [.int .i64]), (102, [.int .i64]), (127, [.int .i64]), (129, [.str]), (131, [.int .i64, .str, .int .i64]), (65, [.int .i64]), (139, [.str]), (141, [.int .i64, .str, .int .i64])], resT, imB, noB⟩
noncomputable def h25_0 (Cl : Oracle) (n : Nat) (bx : List (List C)) (m0 : Nat) (S : Go.Abs.St) : Option (V × List (List C)) := iterK 0 (evCA an25 Cl n k25_b0) (some [0, 5, 6]) true m0 S (blockK 0 (seqK (evCA an25 Cl n k25_c0) (retK [.slot 2, .slot 3, .slot 4] true bx)))
noncomputable def h25_1 (Cl : Oracle) (n : Nat) (bx : List (List C)) (m0 : Nat) (m1 : Nat) (S : Go.Abs.St) : Option (V × List (List C)) := jumpK 1 (evCA an25 Cl n k25_b1) m1 S (blockK 1 (nextK (some [0, 5, 6]) true (h25_0 Cl n bx m0) (blockK 0 (seqK (evCA an25 Cl n k25_c0) (retK [.slot 2, .slot 3, .slot 4] true bx)))))
noncomputable def h25_2 (Cl : Oracle) (n : Nat) (bx : List (List C)) (m0 : Nat) (m2 : Nat) (S : Go.Abs.St) : Option (V × List (List C)) := jumpK 2 (evCA an25 Cl n k25_b2) m2 S (blockK 1 (nextK (some [0, 5, 6]) true (h25_0 Cl n bx m0) (blockK 0 (seqK (evCA an25 Cl n k25_c0) (retK [.slot 2, .slot 3, .slot 4] true bx)))))
def hint26 : Hint := ⟨18, 3, [], [], [(0, (some [0]), false), (1, (some [0]), false)]⟩
noncomputable def k26 : KFunc := kOf 8 (compF Tryz.prog nm hint26 Tryz.f26 true)
def an26 : Ann := ⟨lkN [(10, [.int .i64]), (14, [.im 3])], resT, imB, noB⟩
def hint27 : Hint := ⟨16, 5, [], [], [(0, (some [0, 1]), false), (1, (some [0, 1]), false), (2, (some []), false), (3, (some [0]), false), (4, (some []), false)]⟩
noncomputable def k27 : KFunc := kOf 8 (compF Tryz.prog nm hint27 Tryz.f27 true)
def an27 : Ann := ⟨lkN [(12, [.int .i64]), (15, [.int .i64])], resT, imB, noB⟩
def hint28 : Hint := ⟨96, 5, [2], [], [(0, (some [0]), false), (1, (some [0, 2]), false), (2, (some [3, 0, 2]), false), (3, (some [3, 0, 2]), false), (4, (some [3, 0, 2]), true), (5, (some [3, 0, 2]), false), (6, (some [3, 0, 2]), false), (7, (some [3, 0, 2]), true), (8, (some [3, 0, 2]), false), (9, (some [3, 0, 2]), false), (10, (some [3, 0, 2]), false), (11, (some [3, 0, 2, 4]), false), (12, (some [3, 0, 2, 4]), false), (13, (some [3, 0, 2, 4]), false), (14, (some [3, 0, 2, 4]), false), (15, (some [3, 0, 2, 4]), false), (16, (some [3, 0, 2, 4]), false), (17, (some [2, 3, 0]), false), (18, (some [2, 3]), false)]⟩
noncomputable def k28 : KFunc := kOf 8 (compF Tryz.prog nm hint28 Tryz.f28 true)
noncomputable def k28_b3 : KCode := k28.body.at_ [1, 1, 1, 1, 1, 1, 1]
noncomputable def k28_b1 : KCode := k28.body.at_ [1, 1, 1, 1, 1, 1, 0, 0, 0, 1, 0, 1, 1, 1, 1]
noncomputable def k28_b2 : KCode := k28.body.at_ [1, 1, 1, 1, 1, 1, 0, 0, 0, 1]
noncomputable def k28_b0 : KCode := k28.body.at_ [1, 1, 1, 1, 1, 1, 0, 0, 0]
noncomputable def k28_c0 : KCode := k28.body.at_ [1, 1, 1, 1, 1]
noncomputable def k28_b4 : KCode := k28.body.at_ [1, 1, 1, 1, 0, 0, 0]
def an28 : Ann := ⟨lkN [(3, [.str, .im 1, .im 3]), (15, [.im 1]), (22, [.im 1]), (28, [.im 1]), (35, [.im 1]), (56, [.im 3]), (72, [.str]), (81, [.str]), (84, [.im 4]), (86, [.im 3]), (87, [.str, .str, .im 4]), (90, [.im 3]), (95, [.str, .im 1, .im 3]), (2, [.str, .im 1, .im 3])], resT, imB, noB⟩
noncomputable def h28_3 (Cl : Oracle) (n : Nat) (bx : List (List C)) (m3 : Nat) (S : Go.Abs.St) : Option (V × List (List C)) := jumpK 3 (evCA an28 Cl n k28_b3) m3 S (retK [.cell 2 3 true] true bx)
noncomputable def h28_0 (Cl : Oracle) (n : Nat) (bx : List (List C)) (m0 : Nat) (S : Go.Abs.St) : Option (V × List (List C)) := iterK 0 (evCA an28 Cl n k28_b0) (some [3, 0, 2]) true m0 S (blockK 2 (seqK (joinK 3 (some [2, 3, 0]) false n (evCA an28 Cl n k28_b3)) (retK [.cell 2 3 true] true bx)))
noncomputable def h28_1 (Cl : Oracle) (n : Nat) (bx : List (List C)) (m0 : Nat) (m1 : Nat) (S : Go.Abs.St) : Option (V × List (List C)) := jumpK 1 (evCA an28 Cl n k28_b1) m1 S (blockK 3 (nextK (some [3, 0, 2]) true (h28_0 Cl n bx m0) (blockK 2 (seqK (joinK 3 (some [2, 3, 0]) false n (evCA an28 Cl n k28_b3)) (retK [.cell 2 3 true] true bx)))))
noncomputable def h28_2 (Cl : Oracle) (n : Nat) (bx : List (List C)) (m0 : Nat) (m2 : Nat) (S : Go.Abs.St) : Option (V × List (List C)) := jumpK 2 (evCA an28 Cl n k28_b2) m2 S (nextK (some [3, 0, 2]) true (h28_0 Cl n bx m0) (blockK 2 (seqK (joinK 3 (some [2, 3, 0]) false n (evCA an28 Cl n k28_b3)) (retK [.cell 2 3 true] true bx))))
noncomputable def h28_4 (Cl : Oracle) (n : Nat) (bx : List (List C)) (m4 : Nat) (S : Go.Abs.St) : Option (V × List (List C)) := iterK 4 (evCA an28 Cl n k28_b4) (some [3, 0, 2]) true m4 S (blockK 0 (seqK (evCA an28 Cl n k28_c0) (retK [.cell 2 3 true] true bx)))
def hint29 : Hint := ⟨76, 5, [2], [], [(0, (some [0]), false), (1, (some [0, 2]), false), (2, (some [3, 0, 2]), false), (3, (some [3, 0, 2]), true), (4, (some [3, 0, 2]), false), (5, (some [3, 0, 2]), false), (6, (some [3, 0, 2]), false), (9, (some [3, 0, 2, 4]), false), (10, (some [3, 0, 2, 4]), false), (11, (some [3, 0, 2, 4]), false), (7, (some [3, 0, 2, 4]), false), (8, (some [3, 0, 2, 4]), false), (12, (some [3, 0, 2, 4]), false), (13, (some [2, 3, 0]), false), (14, (some [2, 3]), false)]⟩
noncomputable def k29 : KFunc := kOf 8 (compF Tryz.prog nm hint29 Tryz.f29 true)
noncomputable def k29_b3 : KCode := k29.body.at_ [1, 1, 1, 1]
noncomputable def k29_b1 : KCode := k29.body.at_ [1, 1, 1, 0, 0, 0, 1, 0, 1, 1, 1, 1]
noncomputable def k29_b2 : KCode := k29.body.at_ [1, 1, 1, 0, 0, 0, 1]
noncomputable def k29_b0 : KCode := k29.body.at_ [1, 1, 1, 0, 0, 0]
def an29 : Ann := ⟨lkN [(3, [.str, .im 3]), (30, [.im 3]), (4, [.int .i64, .str, .im 4]), (4, [.int .i64, .str, .im 4]), (66, [.im 3]), (67, [.int .i64, .str, .im 4]), (70, [.im 3]), (75, [.str, .im 3]), (2, [.str, .im 3])], resT, imB, noB⟩
noncomputable def h29_3 (Cl : Oracle) (n : Nat) (bx : List (List C)) (m3 : Nat) (S : Go.Abs.St) : Option (V × List (List C)) := jumpK 3 (evCA an29 Cl n k29_b3) m3 S (retK [.cell 2 2 true] true bx)
noncomputable def h29_0 (Cl : Oracle) (n : Nat) (bx : List (List C)) (m0 : Nat) (S : Go.Abs.St) : Option (V × List (List C)) := iterK 0 (evCA an29 Cl n k29_b0) (some [3, 0, 2]) true m0 S (blockK 0 (seqK (joinK 3 (some [2, 3, 0]) false n (evCA an29 Cl n k29_b3)) (retK [.cell 2 2 true] true bx)))
noncomputable def h29_1 (Cl : Oracle) (n : Nat) (bx : List (List C)) (m0 : Nat) (m1 : Nat) (S : Go.Abs.St) : Option (V × List (List C)) := jumpK 1 (evCA an29 Cl n k29_b1) m1 S (blockK 1 (nextK (some [3, 0, 2]) true (h29_0 Cl n bx m0) (blockK 0 (seqK (joinK 3 (some [2, 3, 0]) false n (evCA an29 Cl n k29_b3)) (retK [.cell 2 2 true] true bx)))))
noncomputable def h29_2 (Cl : Oracle) (n : Nat) (bx : List (List C)) (m0 : Nat) (m2 : Nat) (S : Go.Abs.St) : Option (V × List (List C)) := jumpK 2 (evCA an29 Cl n k29_b2) m2 S (nextK (some [3, 0, 2]) true (h29_0 Cl n bx m0) (blockK 0 (seqK (joinK 3 (some [2, 3, 0]) false n (evCA an29 Cl n k29_b3)) (retK [.cell 2 2 true] true bx))))
def hint30 : Hint := ⟨75, 4, [2], [], [(0, (some [0]), false), (1, (some [2, 0]), false), (2, (some [2, 0]), false), (3, (some [2, 0]), true), (4, (some [2, 0]), false), (5, (some [2, 0, 3]), false), (6, (some [2, 0, 3]), false), (7, (some [2, 0, 3]), false), (8, (some [2, 0]), false), (9, (some [2, 0]), false), (10, (some [2, 0]), false), (11, (some [2, 0]), false), (12, (some [2, 0]), false), (13, (some [2, 0]), false)]⟩
noncomputable def k30 : KFunc := kOf 8 (compF Tryz.prog nm hint30 Tryz.f30 true)
noncomputable def k30_b3 : KCode := k30.body.at_ [1, 1, 1, 1]
noncomputable def k30_b2 : KCode := k30.body.at_ [1, 1, 1, 0, 0, 0, 1]
noncomputable def k30_b0 : KCode := k30.body.at_ [1, 1, 1, 0, 0, 0]
def an30 : Ann := ⟨lkN [(11, [.str, .im 3, .im 6, .im 10]), (3, [.str, .int .i64, .str]), (39, [.int .i64, .str]), (45, [.im 3]), (46, [.str, .int .i64, .str]), (51, [.im 3]), (74, [.str, .im 3, .im 6, .im 10]), (2, [.str, .im 3, .im 6, .im 10])], resT, imB, noB⟩
noncomputable def h30_3 (Cl : Oracle) (n : Nat) (bx : List (List C)) (m3 : Nat) (S : Go.Abs.St) : Option (V × List (List C)) := jumpK 3 (evCA an30 Cl n k30_b3) m3 S (retK [.cell 2 4 true] true bx)
noncomputable def h30_0 (Cl : Oracle) (n : Nat) (bx : List (List C)) (m0 : Nat) (S : Go.Abs.St) : Option (V × List (List C)) := iterK 0 (evCA an30 Cl n k30_b0) (some [2, 0]) true m0 S (blockK 0 (seqK (joinK 3 (some [2, 0]) false n (evCA an30 Cl n k30_b3)) (retK [.cell 2 4 true] true bx)))
noncomputable def h30_2 (Cl : Oracle) (n : Nat) (bx : List (List C)) (m0 : Nat) (m2 : Nat) (S : Go.Abs.St) : Option (V × List (List C)) := jumpK 2 (evCA an30 Cl n k30_b2) m2 S (nextK (some [2, 0]) true (h30_0 Cl n bx m0) (blockK 0 (seqK (joinK 3 (some [2, 0]) false n (evCA an30 Cl n k30_b3)) (retK [.cell 2 4 true] true bx))))
def hint31 : Hint := ⟨35, 2, [], [], [(0, (some [0]), false), (1, (some [0]), false), (2, (some [0]), false), (3, (some [0]), false)]⟩
noncomputable def k31 : KFunc := kOf 8 (compF Tryz.prog nm hint31 Tryz.f31 true)
def hint32 : Hint := ⟨8, 3, [], [], [(0, (some [0]), false), (1, (some [0]), false)]⟩
noncomputable def k32 : KFunc := kOf 8 (compF Tryz.prog nm hint32 Tryz.f32 true)
def an32 : Ann := ⟨lkN [(6, [.int .i64])], resT, imB, noB⟩
def hint33 : Hint := ⟨19, 6, [], [], [(0, (some [1, 0]), false), (1, (some [1, 0]), false), (2, (some [1, 0]), false), (3, (some [1]), false)]⟩
noncomputable def k33 : KFunc := kOf 8 (compF Tryz.prog nm hint33 Tryz.f33 true)
def an33 : Ann := ⟨lkN [(12, [.im 1]), (16, [.im 1])], resT, imB, noB⟩
def hint34 : Hint := ⟨5, 3, [], [], [(0, (some [0]), false), (1, (some [0]), false)]⟩
noncomputable def k34 : KFunc := kOf 8 (compF Tryz.prog nm hint34 Tryz.f34 true)
def hint35 : Hint := ⟨32, 6, [], [], [(0, (some [0]), false), (1, (some [0]), false), (2, (some [3, 0]), false), (3, (some [6, 7, 8, 3]), true), (4, (some [6, 7, 8, 3]), false), (5, (some [6, 7, 8, 5, 3]), false), (6, (some [3, 6, 7, 8]), false), (7, (some [3]), false)]⟩
noncomputable def k35 : KFunc := kOf 8 (compF Tryz.prog nm hint35 Tryz.f35 true)
noncomputable def k35_c0 : KCode := k35.body.at_ [1, 1, 1]
noncomputable def k35_b0 : KCode := k35.body.at_ [1, 1, 0, 1, 0, 0]
def an35 : Ann := ⟨lkN [(11, [.str, .int .i64, .str, .int .i64]), (5, [.str, .int .i64, .str, .int .i64]), (14, [.str]), (17, [.int .i64, .str]), (22, [.int .i64])], resT, imB, noB⟩
noncomputable def h35_0 (Cl : Oracle) (n : Nat) (bx : List (List C)) (m0 : Nat) (S : Go.Abs.St) : Option (V × List (List C)) := iterK 0 (evCA an35 Cl n k35_b0) (some [6, 7, 8, 3]) true m0 S (blockK 0 (seqK (evCA an35 Cl n k35_c0) (retK [.slot 2] true bx)))
def hint36 : Hint := ⟨14, 3, [], [], [(0, (some [0]), false), (1, (some [0]), false)]⟩
noncomputable def k36 : KFunc := kOf 8 (compF Tryz.prog nm hint36 Tryz.f36 true)
def an36 : Ann := ⟨lkN [(6, [.im 1]), (11, [.im 1])], resT, imB, noB⟩
def hint37 : Hint := ⟨75, 11, [], [], [(0, (some [0, 1]), false), (1, (some [0, 1]), false), (2, (some [0, 1, 12]), false), (3, (some []), false), (4, (some [0, 1, 12]), false), (5, (some [0]), false), (6, (some [1, 0]), false), (7, (some [1, 0, 5]), false), (8, (some [1, 0, 5]), false), (9, (some [1, 0, 5]), false), (10, (some [1, 0, 5]), false), (11, (some [5, 1, 0]), false), (12, (some [39, 1, 0, 40, 41, 5]), true), (13, (some [39, 1, 0, 40, 41, 5]), false), (14, (some [39, 1, 0, 40, 41, 7, 5]), false), (15, (some [39, 1, 0, 40, 41, 7, 5]), false), (16, (some [39, 1, 0, 40, 41, 7, 5]), false), (17, (some [5, 39, 1, 0, 40, 41]), false), (18, (some [1, 0, 5]), false), (19, (some [8, 1, 0, 5]), false), (20, (some [8, 1, 0]), false), (21, (some [8, 1, 0]), false), (22, (some [8, 1, 63, 64, 65]), true), (23, (some [8, 1, 63, 64, 65]), false), (24, (some [8, 1, 63, 64, 65, 10]), false), (25, (some [8, 1, 63, 64, 65, 10]), false), (26, (some [8, 1, 63, 64, 65]), false), (27, (some [8]), false)]⟩
noncomputable def k37 : KFunc := kOf 8 (compF Tryz.prog nm hint37 Tryz.f37 true)
noncomputable def k37_c0 : KCode := k37.body.at_ [1, 1, 1, 1, 1, 1, 1, 1, 1]
noncomputable def k37_b0 : KCode := k37.body.at_ [1, 1, 1, 1, 1, 1, 1, 1, 0, 1, 0, 0]
noncomputable def k37_c1 : KCode := k37.body.at_ [1, 1, 1, 1, 1]
noncomputable def k37_b1 : KCode := k37.body.at_ [1, 1, 1, 1, 0, 1, 0, 0]
noncomputable def k37_b3 : KCode := k37.body.at_ [1, 1, 1, 1]
noncomputable def k37_b2 : KCode := k37.body.at_ [1, 1, 1, 0, 1, 0, 1]
def an37 : Ann := ⟨lkN [(19, [.str]), (44, [.str]), (60, [.str]), (68, [.str])], resT, imB, noB⟩
noncomputable def h37_0 (Cl : Oracle) (n : Nat) (bx : List (List C)) (m0 : Nat) (S : Go.Abs.St) : Option (V × List (List C)) := iterK 0 (evCA an37 Cl n k37_b0) (some [8, 1, 63, 64, 65]) true m0 S (blockK 3 (seqK (evCA an37 Cl n k37_c0) (retK [.slot 4] true bx)))
noncomputable def h37_1 (Cl : Oracle) (n : Nat) (bx : List (List C)) (m1 : Nat) (S : Go.Abs.St) : Option (V × List (List C)) := iterK 1 (evCA an37 Cl n k37_b1) (some [39, 1, 0, 40, 41, 5]) true m1 S (blockK 1 (seqK (evCA an37 Cl n k37_c1) (retK [.slot 4] true bx)))
noncomputable def h37_3 (Cl : Oracle) (n : Nat) (bx : List (List C)) (m3 : Nat) (S : Go.Abs.St) : Option (V × List (List C)) := jumpK 3 (evCA an37 Cl n k37_b3) m3 S (retK [.slot 4] true bx)
noncomputable def h37_2 (Cl : Oracle) (n : Nat) (bx : List (List C)) (m2 : Nat) (S : Go.Abs.St) : Option (V × List (List C)) := jumpK 2 (evCA an37 Cl n k37_b2) m2 S (seqK (joinK 3 (some [5, 1, 0]) false n (evCA an37 Cl n k37_b3)) (retK [.slot 4] true bx))
def hint38 : Hint := ⟨26, 6, [], [], [(0, (some [1, 0]), false), (1, (some [1, 0]), false), (2, (some []), false), (3, (some [1, 0]), false), (4, (some [1, 0, 5]), true), (6, (some [1, 0, 5]), false), (7, (some []), false), (5, (some [1, 0, 5]), false), (8, (some []), false)]⟩
noncomputable def k38 : KFunc := kOf 8 (compF Tryz.prog nm hint38 Tryz.f38 true)
noncomputable def k38_c0 : KCode := k38.body.at_ [1, 1, 1]
noncomputable def k38_b0 : KCode := k38.body.at_ [1, 1, 0, 1, 0, 0]
def an38 : Ann := ⟨lkN [(20, [.str]), (24, [.str])], resT, imB, noB⟩
noncomputable def h38_0 (Cl : Oracle) (n : Nat) (bx : List (List C)) (m0 : Nat) (S : Go.Abs.St) : Option (V × List (List C)) := iterK 0 (evCA an38 Cl n k38_b0) (some [1, 0, 5]) true m0 S (blockK 0 (seqK (evCA an38 Cl n k38_c0) (retK [.slot 4] true bx)))
def hint39 : Hint := ⟨26, 6, [], [], [(0, (some [1, 0]), false), (1, (some [1, 0]), false), (2, (some []), false), (3, (some [1, 0]), false), (4, (some [1, 0, 5]), true), (6, (some [1, 0, 5]), false), (7, (some []), false), (5, (some [1, 0, 5]), false), (8, (some []), false)]⟩
noncomputable def k39 : KFunc := kOf 8 (compF Tryz.prog nm hint39 Tryz.f39 true)
noncomputable def k39_c0 : KCode := k39.body.at_ [1, 1, 1]
noncomputable def k39_b0 : KCode := k39.body.at_ [1, 1, 0, 1, 0, 0]
def an39 : Ann := ⟨lkN [(20, [.str, .int .i64, .str, .int .i64]), (24, [.str, .int .i64, .str, .int .i64])], resT, imB, noB⟩
noncomputable def h39_0 (Cl : Oracle) (n : Nat) (bx : List (List C)) (m0 : Nat) (S : Go.Abs.St) : Option (V × List (List C)) := iterK 0 (evCA an39 Cl n k39_b0) (some [1, 0, 5]) true m0 S (blockK 0 (seqK (evCA an39 Cl n k39_c0) (retK [.slot 4] true bx)))
def hint40 : Hint := ⟨2, 1, [], [], [(0, (some []), false), (1, (some []), false)]⟩
noncomputable def k40 : KFunc := kOf 8 (compF Tryz.prog nm hint40 Tryz.f40 true)
def an40 : Ann := ⟨lkN [], resT, imB, noB⟩
def hint41 : Hint := ⟨9, 3, [2], [], [(0, (some [0]), false), (1, (some [2, 0]), false)]⟩
noncomputable def k41 : KFunc := kOf 8 (compF Tryz.prog nm hint41 Tryz.f41 true)
def an41 : Ann := ⟨lkN [(7, [.int .i64]), (2, [.int .i64, .str])], resT, imB, noB⟩
def hint42 : Hint := ⟨23, 5, [4], [], [(0, (some [1, 0]), false), (1, (some [4, 1, 0]), false), (2, (some [4, 1, 0]), false), (3, (some [4, 0]), false)]⟩
noncomputable def k42 : KFunc := kOf 8 (compF Tryz.prog nm hint42 Tryz.f42 true)
noncomputable def k42_b0 : KCode := k42.body.at_ [1, 1]
def an42 : Ann := ⟨lkN [(19, [.str]), (4, [.int .i64, .str]), (4, [.int .i64, .str])], resT, imB, noB⟩
noncomputable def h42_0 (Cl : Oracle) (n : Nat) (bx : List (List C)) (m0 : Nat) (S : Go.Abs.St) : Option (V × List (List C)) := jumpK 0 (evCA an42 Cl n k42_b0) m0 S (retK [.cell 4 2 true] true bx)
def hint43 : Hint := ⟨9, 3, [], [], [(0, (some [0]), false), (1, (some [0]), false)]⟩
noncomputable def k43 : KFunc := kOf 8 (compF Tryz.prog nm hint43 Tryz.f43 true)
def hint44 : Hint := ⟨46, 3, [], [], [(0, (some [0]), false), (1, (some [0]), false), (2, (some [3]), false), (3, (some [3]), false), (4, (some [3]), false), (5, (some [3]), false), (6, (some [3]), false), (7, (some [3]), false), (8, (some [3]), false), (9, (some [3]), false), (10, (some [3]), false), (11, (some [3]), false), (12, (some [3]), false), (13, (some [3]), false), (14, (some [3]), false), (15, (some []), false), (16, (some [3]), false), (17, (some [3]), false), (18, (some [3]), false), (19, (some [3]), false), (20, (some [3]), false), (21, (some [3]), false), (22, (some [3]), false), (23, (some [3]), false), (24, (some [3]), false), (25, (some [3]), false), (26, (some [3]), false), (27, (some [3]), false), (28, (some [3]), false), (29, (some []), false), (30, (some [3]), false), (31, (some [3]), false), (32, (some [3]), false), (33, (some [3]), false), (34, (some [3]), false), (35, (some [3]), false), (36, (some [3]), false), (37, (some [3]), false), (38, (some [3]), false), (39, (some [3]), false), (40, (some [3]), false), (41, (some [3]), false), (42, (some [3]), false), (43, (some []), false), (44, (some []), false)]⟩
noncomputable def k44 : KFunc := kOf 8 (compF Tryz.prog nm hint44 Tryz.f44 true)
def hint45 : Hint := ⟨9, 3, [], [], [(0, (some [0]), false), (1, (some [0]), false)]⟩
noncomputable def k45 : KFunc := kOf 8 (compF Tryz.prog nm hint45 Tryz.f45 true)
def hint46 : Hint := ⟨19, 6, [], [], [(0, (some [1, 0]), false), (1, (some [1, 0]), false), (2, (some [1, 0, 7, 8]), true), (3, (some [1, 0, 7, 8]), false), (4, (some [5, 1, 0, 7, 8]), false), (5, (some [5]), false), (6, (some [1, 0, 7, 8]), false), (7, (some []), false)]⟩
noncomputable def k46 : KFunc := kOf 8 (compF Tryz.prog nm hint46 Tryz.f46 true)
def hint47 : Hint := ⟨37, 6, [], [], [(0, (some [0]), false), (1, (some [1]), false), (2, (some []), false), (3, (some [1]), false), (4, (some [1]), false), (5, (some [1]), false), (6, (some [4, 5, 3]), false)]⟩
noncomputable def k47 : KFunc := kOf 8 (compF Tryz.prog nm hint47 Tryz.f47 true)
def hint48 : Hint := ⟨9, 3, [], [], [(0, (some [0]), false), (1, (some [0]), false)]⟩
noncomputable def k48 : KFunc := kOf 8 (compF Tryz.prog nm hint48 Tryz.f48 true)
def an48 : Ann := ⟨lkN [], resT, imB, noB⟩
def hint49 : Hint := ⟨17, 3, [], [], [(0, (some [0]), false), (1, (some [1]), false), (2, (some [1, 4]), false), (3, (some [1]), false), (4, (some [1, 4]), false), (5, (some [1, 4]), false), (6, (some []), false), (7, (some [1]), false)]⟩
noncomputable def k49 : KFunc := kOf 8 (compF Tryz.prog nm hint49 Tryz.f49 true)
def hint50 : Hint := ⟨21, 7, [], [], [(0, (some [1, 0, 2]), false), (1, (some [0, 2, 1]), true), (2, (some [0, 2, 1]), false), (3, (some [1]), false)]⟩
noncomputable def k50 : KFunc := kOf 8 (compF Tryz.prog nm hint50 Tryz.f50 true)
noncomputable def k50_c0 : KCode := k50.body.at_ [1, 1]
noncomputable def k50_b0 : KCode := k50.body.at_ [1, 0, 0, 0]
def an50 : Ann := ⟨lkN [], resT, imB, noB⟩
noncomputable def h50_0 (Cl : Oracle) (n : Nat) (bx : List (List C)) (m0 : Nat) (S : Go.Abs.St) : Option (V × List (List C)) := iterK 0 (evCA an50 Cl n k50_b0) (some [0, 2, 1]) true m0 S (blockK 0 (seqK (evCA an50 Cl n k50_c0) (retK [.slot 6] true bx)))
def hint51 : Hint := ⟨5, 3, [], [], [(0, (some [0]), false), (1, (some [0]), false)]⟩
noncomputable def k51 : KFunc := kOf 8 (compF Tryz.prog nm hint51 Tryz.f51 true)
def hint52 : Hint := ⟨9, 3, [], [], [(0, (some [0]), false), (1, (some [0]), false)]⟩
noncomputable def k52 : KFunc := kOf 8 (compF Tryz.prog nm hint52 Tryz.f52 true)
def an52 : Ann := ⟨lkN [], resT, imB, noB⟩
def hint53 : Hint := ⟨9, 3, [], [], [(0, (some [0]), false), (1, (some [0]), false)]⟩
noncomputable def k53 : KFunc := kOf 8 (compF Tryz.prog nm hint53 Tryz.f53 true)
def an53 : Ann := ⟨lkN [], resT, imB, noB⟩
def hint54 : Hint := ⟨46, 6, [], [], [(0, (some [0]), false), (1, (some [0]), false), (2, (some [0, 3]), false), (3, (some [0, 3]), false), (4, (some [0, 3]), false), (5, (some []), false), (6, (some [0]), false), (7, (some [5]), false)]⟩
noncomputable def k54 : KFunc := kOf 8 (compF Tryz.prog nm hint54 Tryz.f54 true)
def hint56 : Hint := ⟨44, 6, [], [], [(0, (some [1, 0]), false), (1, (some [1, 0]), false), (2, (some [1, 0]), false), (3, (some [5, 1, 0]), false), (4, (some [5, 1, 0, 16]), false), (5, (some [5, 1, 0, 16]), false), (6, (some [5]), false), (7, (some [1, 0]), false), (8, (some [1, 0, 23]), false), (9, (some [1, 0, 23]), false), (10, (some [1, 0, 23]), false), (11, (some [1, 0, 23]), false), (12, (some [1, 0, 23]), false), (13, (some [1, 0, 23]), false), (14, (some [1, 0, 23]), false), (15, (some [1, 0, 23]), false), (16, (some [1, 0, 23]), false), (17, (some [1, 0, 23]), false), (18, (some [1, 0, 23]), false), (19, (some [1, 0, 23]), false), (20, (some [1, 0, 23]), false), (21, (some [1, 0, 23]), false), (22, (some [1, 0]), false), (23, (some []), false)]⟩
noncomputable def k56 : KFunc := kOf 8 (compF Tryz.prog nm hint56 Tryz.f56 true)
noncomputable def k56_b0 : KCode := k56.body.at_ [1, 1, 1]
noncomputable def k56_b1 : KCode := k56.body.at_ [1, 1]
def an56 : Ann := ⟨lkN [], resT, imB, noB⟩
noncomputable def h56_0 (Cl : Oracle) (n : Nat) (bx : List (List C)) (m0 : Nat) (S : Go.Abs.St) : Option (V × List (List C)) := jumpK 0 (evCA an56 Cl n k56_b0) m0 S (retK [.slot 4] true bx)
noncomputable def h56_1 (Cl : Oracle) (n : Nat) (bx : List (List C)) (m1 : Nat) (S : Go.Abs.St) : Option (V × List (List C)) := jumpK 1 (evCA an56 Cl n k56_b1) m1 S (retK [.slot 4] true bx)
def hint57 : Hint := ⟨50, 5, [], [], [(0, (some [0, 1]), false), (1, (some [0, 1]), false)]⟩
noncomputable def k57 : KFunc := kOf 8 (compF Tryz.prog nm hint57 Tryz.f57 true)
def an57 : Ann := ⟨lkN [(11, [.im 3]), (15, [.int .i64]), (18, [.str]), (26, [.im 3]), (30, [.int .i64]), (33, [.int .i64]), (39, [.im 3]), (43, [.int .i64]), (46, [.int .i64])], resT, imB, noB⟩
def hint58 : Hint := ⟨27, 3, [], [], [(0, (some [0]), false), (1, (some [0]), false), (2, (some [0]), false), (3, (some []), false), (4, (some [0]), false), (5, (some [0]), false)]⟩
noncomputable def k58 : KFunc := kOf 8 (compF Tryz.prog nm hint58 Tryz.f58 true)
def an58 : Ann := ⟨lkN [(11, [.int .i64]), (14, [.int .i64]), (18, [.im 3]), (22, [.int .i64]), (26, [.str])], resT, imB, noB⟩
def hint59 : Hint := ⟨10, 4, [], [], [(0, (some [0, 1]), false), (1, (some [0]), false)]⟩
noncomputable def k59 : KFunc := kOf 8 (compF Tryz.prog nm hint59 Tryz.f59 true)
def an59 : Ann := ⟨lkN [], resT, imB, noB⟩
def hint60 : Hint := ⟨67, 7, [], [], [(0, (some [0, 1]), false), (1, (some [0, 1]), false), (2, (some [0, 1]), false), (3, (some [5, 0, 1, 6]), false), (4, (some [5, 0]), false), (5, (some [5]), false), (6, (some [0]), false), (7, (some []), false)]⟩
noncomputable def k60 : KFunc := kOf 8 (compF Tryz.prog nm hint60 Tryz.f60 true)
noncomputable def k60_b0 : KCode := k60.body.at_ [1, 1]
def an60 : Ann := ⟨lkN [(13, [.im 3]), (17, [.int .i64]), (20, [.int .i64]), (27, [.im 3]), (31, [.int .i64]), (34, [.str]), (60, [.int .i64]), (63, [.int .i64])], resT, imB, noB⟩
noncomputable def h60_0 (Cl : Oracle) (n : Nat) (bx : List (List C)) (m0 : Nat) (S : Go.Abs.St) : Option (V × List (List C)) := jumpK 0 (evCA an60 Cl n k60_b0) m0 S (retK [.slot 4] true bx)
def hint61 : Hint := ⟨49, 5, [], [], [(0, (some [0]), false), (1, (some [0]), false), (2, (some [0, 3]), false), (3, (some [0, 3]), true), (4, (some [0, 3]), false), (5, (some [0, 4, 3]), false), (6, (some [0, 4, 3]), false), (7, (some [0, 4, 3]), false), (8, (some [0, 4, 3]), false), (9, (some [0, 4, 3]), false), (10, (some [3, 0]), false), (11, (some [3, 0]), false), (12, (some [3]), false)]⟩
noncomputable def k61 : KFunc := kOf 8 (compF Tryz.prog nm hint61 Tryz.f61 true)
noncomputable def k61_b2 : KCode := k61.body.at_ [1, 1, 1, 1]
noncomputable def k61_b1 : KCode := k61.body.at_ [1, 1, 1, 0, 0, 0, 1, 0, 1, 1, 1, 1, 1, 1]
noncomputable def k61_b0 : KCode := k61.body.at_ [1, 1, 1, 0, 0, 0]
def an61 : Ann := ⟨lkN [(4, [.str, .int .i64, .str, .int .i64]), (25, [.int .i64, .str]), (34, [.int .i64]), (36, [.str, .int .i64, .str, .int .i64])], resT, imB, noB⟩
noncomputable def h61_2 (Cl : Oracle) (n : Nat) (bx : List (List C)) (m2 : Nat) (S : Go.Abs.St) : Option (V × List (List C)) := jumpK 2 (evCA an61 Cl n k61_b2) m2 S (retK [.slot 2] true bx)
noncomputable def h61_0 (Cl : Oracle) (n : Nat) (bx : List (List C)) (m0 : Nat) (S : Go.Abs.St) : Option (V × List (List C)) := iterK 0 (evCA an61 Cl n k61_b0) (some [0, 3]) true m0 S (blockK 0 (seqK (joinK 2 (some [3, 0]) false n (evCA an61 Cl n k61_b2)) (retK [.slot 2] true bx)))
noncomputable def h61_1 (Cl : Oracle) (n : Nat) (bx : List (List C)) (m0 : Nat) (m1 : Nat) (S : Go.Abs.St) : Option (V × List (List C)) := jumpK 1 (evCA an61 Cl n k61_b1) m1 S (blockK 1 (nextK (some [0, 3]) true (h61_0 Cl n bx m0) (blockK 0 (seqK (joinK 2 (some [3, 0]) false n (evCA an61 Cl n k61_b2)) (retK [.slot 2] true bx)))))
def hint62 : Hint := ⟨57, 4, [2], [], [(0, (some [0]), false), (1, (some [2, 0]), false), (2, (some [2]), false), (3, (some [2, 0]), false), (4, (some [2]), false), (5, (some [2, 0]), false), (6, (some [2]), false), (7, (some [2, 0]), false), (8, (some [2]), false), (9, (some [2, 0]), false), (10, (some [2]), false), (11, (some [2, 0]), false), (12, (some [2, 0]), false), (13, (some [2, 3, 0]), false), (14, (some [2, 3, 0]), false), (15, (some [2, 3]), false)]⟩
noncomputable def k62 : KFunc := kOf 8 (compF Tryz.prog nm hint62 Tryz.f62 true)
def an62 : Ann := ⟨lkN [(2, [.int .i64, .str]), (2, [.int .i64, .str]), (2, [.int .i64, .str]), (2, [.int .i64, .str]), (2, [.int .i64, .str]), (3, [.int .i64, .str]), (48, [.str]), (55, [.str]), (56, [.int .i64, .str]), (2, [.int .i64, .str])], resT, imB, noB⟩
def hint63 : Hint := ⟨21, 4, [], [], [(0, (some [0]), false), (1, (some [0]), false), (2, (some [0]), false), (3, (some [3, 0]), false), (4, (some [3, 0]), false), (5, (some [3]), false)]⟩
noncomputable def k63 : KFunc := kOf 8 (compF Tryz.prog nm hint63 Tryz.f63 true)
def an63 : Ann := ⟨lkN [(12, [.im 10])], resT, imB, noB⟩
def hint65 : Hint := ⟨5, 3, [], [], [(0, (some [0]), false), (1, (some [0]), false)]⟩
noncomputable def k65 : KFunc := kOf 8 (compF Tryz.prog nm hint65 Tryz.f65 true)
def hint66 : Hint := ⟨26, 3, [], [], [(0, (some [0]), false), (1, (some [1]), false), (2, (some []), false), (3, (some [1]), false), (4, (some [1, 12]), false), (5, (some []), false), (6, (some [1, 12]), false), (7, (some []), false), (8, (some [1, 12]), false), (9, (some []), false), (10, (some [1, 12]), false), (11, (some []), false), (12, (some [1, 12]), false), (13, (some []), false), (14, (some [1]), false)]⟩
noncomputable def k66 : KFunc := kOf 8 (compF Tryz.prog nm hint66 Tryz.f66 true)
def hint68 : Hint := ⟨13, 7, [], [], [(0, (some [1, 0]), false), (1, (some [1, 0]), false)]⟩
noncomputable def k68 : KFunc := kOf 8 (compF Tryz.prog nm hint68 Tryz.f68 true)
def hint73 : Hint := ⟨33, 3, [], [], [(0, (some [0]), false), (1, (some [0]), false)]⟩
noncomputable def k73 : KFunc := kOf 8 (compF Tryz.prog nm hint73 Tryz.f73 true)
def an73 : Ann := ⟨lkN [(9, [.im 3]), (13, [.int .i64]), (16, [.int .i64]), (23, [.im 3]), (27, [.int .i64]), (30, [.str])], resT, imB, noB⟩
def hint75 : Hint := ⟨51, 4, [], [], [(0, (some [0]), true), (1, (some [0]), false), (2, (some [0, 2]), false), (3, (some [0, 3, 2]), false), (4, (some [0, 3, 2]), false), (5, (some [0, 3, 2]), false), (6, (some [0, 3, 2]), false), (7, (some [3, 2, 0]), false), (8, (some [3, 2, 0]), false)]⟩
noncomputable def k75 : KFunc := kOf 8 (compF Tryz.prog nm hint75 Tryz.f75 true)
noncomputable def k75_b1 : KCode := k75.body.at_ [0, 0, 1, 0, 1, 1, 1]
noncomputable def k75_b0 : KCode := k75.body.at_ [0, 0]
def an75 : Ann := ⟨lkN [(13, [.im 10]), (3, [.int .i64, .str, .str, .str, .str, .int .i64, .im 1, .im 3, .im 3, .int .i64]), (21, [.im 10]), (22, [.int .i64, .str, .str, .str, .str, .int .i64, .im 1, .im 3, .im 3, .int .i64]), (27, [.im 10]), (32, [.int .i64]), (37, [.im 10]), (39, [.int .i64, .str, .str, .str, .str, .int .i64, .im 1, .im 3, .im 3, .int .i64]), (40, [.int .i64, .str, .str, .str, .str, .int .i64, .im 1, .im 3, .im 3, .int .i64]), (47, [.im 10]), (49, [.int .i64, .str, .str, .str, .str, .int .i64, .im 1, .im 3, .im 3, .int .i64]), (50, [.int .i64, .str, .str, .str, .str, .int .i64, .im 1, .im 3, .im 3, .int .i64])], resT, imB, noB⟩
noncomputable def h75_0 (Cl : Oracle) (n : Nat) (bx : List (List C)) (m0 : Nat) (S : Go.Abs.St) : Option (V × List (List C)) := iterK 0 (evCA an75 Cl n k75_b0) (some [0]) true m0 S (blockK 0 (retK [] true bx))
noncomputable def h75_1 (Cl : Oracle) (n : Nat) (bx : List (List C)) (m0 : Nat) (m1 : Nat) (S : Go.Abs.St) : Option (V × List (List C)) := jumpK 1 (evCA an75 Cl n k75_b1) m1 S (blockK 1 (nextK (some [0]) true (h75_0 Cl n bx m0) (blockK 0 (retK [] true bx))))
def hint77 : Hint := ⟨54, 10, [], [], [(0, (some [0, 1]), false), (1, (some [0, 1]), false), (2, (some [0]), false), (3, (some [0]), false), (4, (some [0]), false), (5, (some [5, 0]), false), (6, (some [5, 0, 6]), false), (7, (some [5, 0, 6]), false), (8, (some [5, 0, 6]), false), (9, (some [5, 7, 0, 6]), false), (10, (some [5, 7, 0]), false), (11, (some [5, 7]), false), (12, (some [5, 7]), false), (13, (some [5, 7]), false), (14, (some [0, 1]), false), (15, (some [9]), false)]⟩
noncomputable def k77 : KFunc := kOf 8 (compF Tryz.prog nm hint77 Tryz.f77 true)
def hint79 : Hint := ⟨23, 8, [], [], [(0, (some [1, 0]), false), (1, (some [1, 0]), false), (2, (some [1, 7, 0]), false), (3, (some [1, 7, 0]), false), (4, (some [0]), false)]⟩
noncomputable def k79 : KFunc := kOf 8 (compF Tryz.prog nm hint79 Tryz.f79 true)
def hint83 : Hint := ⟨178, 5, [], [], [(0, (some [0, 1]), false), (2, (some [0, 1]), false), (3, (some [0, 1]), false), (4, (some [0, 1]), false), (5, (some [0, 1]), false), (6, (some [0, 1]), false), (7, (some [0, 1]), false), (8, (some [0, 1]), false), (9, (some [0, 1]), false), (10, (some [0, 1]), false), (11, (some [0, 1]), false), (12, (some [0, 1]), false), (13, (some [0, 1]), false), (14, (some [0, 1]), false), (15, (some [0, 1]), false), (16, (some [0, 1]), false), (17, (some [0, 1]), false), (18, (some [0, 1]), false), (19, (some [0]), false), (20, (some [0, 1]), false), (21, (some [0, 1]), false), (22, (some [0, 1]), false), (23, (some [0, 1]), false), (24, (some [0, 1]), false), (25, (some [0, 1]), false), (26, (some [0, 1]), false), (27, (some [0, 1]), false), (28, (some [0, 1]), false), (29, (some [0, 1]), false), (30, (some [0, 1]), false), (31, (some [0, 1]), false), (32, (some [0, 1]), false), (33, (some [0, 1]), false), (34, (some [0, 1]), false), (35, (some [0, 1]), false), (1, (some []), false), (36, (some [0]), false), (37, (some []), false)]⟩
noncomputable def k83 : KFunc := kOf 8 (compF Tryz.prog nm hint83 Tryz.f83 true)
noncomputable def k83_b1 : KCode := k83.body.at_ [1, 1]
noncomputable def k83_b0 : KCode := k83.body.at_ [1, 0, 0, 1, 1, 1, 1, 1, 0, 1, 1, 1, 1, 1, 1, 1]
def an83 : Ann := ⟨lkN [(12, [.int .i64]), (19, [.str]), (28, [.int .i64]), (36, [.int .i64]), (41, [.int .i64]), (49, [.int .i64]), (56, [.str]), (67, [.str]), (74, [.str]), (88, [.int .i64]), (100, [.int .i64]), (107, [.str]), (112, [.im 1]), (120, [.int .i64]), (127, [.str]), (138, [.str]), (149, [.str]), (158, [.im 3]), (166, [.int .i64]), (173, [.str])], resT, imB, noB⟩
noncomputable def h83_1 (Cl : Oracle) (n : Nat) (bx : List (List C)) (m1 : Nat) (S : Go.Abs.St) : Option (V × List (List C)) := jumpK 1 (evCA an83 Cl n k83_b1) m1 S (retK [.slot 4] true bx)
noncomputable def h83_0 (Cl : Oracle) (n : Nat) (bx : List (List C)) (m0 : Nat) (S : Go.Abs.St) : Option (V × List (List C)) := jumpK 0 (evCA an83 Cl n k83_b0) m0 S (blockK 0 (seqK (joinK 1 (some [0]) false n (evCA an83 Cl n k83_b1)) (retK [.slot 4] true bx)))
def hint84 : Hint := ⟨153, 4, [], [], [(1, (some [1, 0]), false), (2, (some [1]), false), (3, (some [1, 0]), false), (4, (some [1]), false), (5, (some [0, 1]), false), (6, (some [0, 1]), false), (7, (some [0, 1]), false), (8, (some [0, 1]), false), (9, (some [0, 1]), false), (10, (some [0, 1]), false), (11, (some [0, 1]), false), (12, (some [0, 1]), false), (13, (some [0, 1]), false), (14, (some [0, 1]), false), (15, (some [0, 1]), false), (16, (some [0, 1]), false), (17, (some [0, 1]), false), (18, (some [0, 1]), false), (19, (some [0, 1]), false), (20, (some [0, 1]), false), (21, (some [0, 1]), false), (22, (some [0, 1]), true), (23, (some [0, 1]), false), (24, (some [0]), false), (0, (some [0]), false)]⟩
noncomputable def k84 : KFunc := kOf 8 (compF Tryz.prog nm hint84 Tryz.f84 true)
noncomputable def k84_b0 : KCode := k84.body.at_ [0, 1, 1, 1, 1, 1, 1, 1, 0, 1, 1, 1]
noncomputable def k84_b3 : KCode := k84.body.at_ [0, 1, 1, 1, 1, 1, 1, 1, 1, 1, 0, 1, 1, 1, 1, 1, 1, 1]
noncomputable def k84_b1 : KCode := k84.body.at_ [0, 1, 1, 1, 1, 1, 1, 1, 1, 1, 0, 1, 1, 1, 1, 1, 1, 0, 0, 0]
def an84 : Ann := ⟨lkN [(15, [.int .i64]), (23, [.int .i64]), (31, [.int .i64]), (38, [.str]), (43, [.im 1]), (51, [.int .i64]), (56, [.int .i64]), (61, [.im 3]), (68, [.im 3]), (77, [.im 3]), (84, [.im 3]), (92, [.int .i64]), (99, [.str]), (110, [.str]), (119, [.im 3]), (125, [.im 3]), (142, [.im 3]), (148, [.im 3])], resT, imB, noB⟩
noncomputable def h84_0 (Cl : Oracle) (n : Nat) (bx : List (List C)) (m0 : Nat) (S : Go.Abs.St) : Option (V × List (List C)) := jumpK 0 (evCA an84 Cl n k84_b0) m0 S (blockK 0 (retK [] true bx))
noncomputable def h84_1 (Cl : Oracle) (n : Nat) (bx : List (List C)) (m1 : Nat) (S : Go.Abs.St) : Option (V × List (List C)) := iterK 1 (evCA an84 Cl n k84_b1) (some [0, 1]) true m1 S (blockK 1 (seqK (joinK 3 (some [0]) false n (evCA an84 Cl n k84_b3)) (blockK 0 (retK [] true bx))))
def hint85 : Hint := ⟨15, 3, [], [], [(0, (some [0]), false), (1, (some [0]), false), (2, (some [0]), false), (3, (some [0]), false)]⟩
noncomputable def k85 : KFunc := kOf 8 (compF Tryz.prog nm hint85 Tryz.f85 true)
def hint90 : Hint := ⟨143, 14, [], [], [(0, (some [1, 0]), false), (1, (some [1, 0]), false), (2, (some [1, 0, 5]), false), (3, (some []), false), (4, (some [1, 0, 5]), false), (5, (some [1, 0]), false), (6, (some [1, 0, 5]), false), (7, (some []), false), (8, (some [1, 0, 5]), false), (9, (some [1, 0]), false), (10, (some [1, 0, 5]), false), (11, (some [1, 0, 5, 6]), false), (12, (some [1, 0, 5, 7, 6]), false), (13, (some [1, 0, 5, 7, 8, 6]), false), (14, (some [1, 0, 9, 5, 7, 8, 6]), false), (15, (some [1, 0, 9, 5, 7, 6, 10, 8]), true), (16, (some [1, 0, 9, 5, 7, 6, 10, 8]), false), (17, (some [1, 0, 9, 5, 7, 6, 10, 8]), false), (18, (some [1, 0, 9, 5, 7, 6, 10, 11, 8]), false), (19, (some []), false), (20, (some [1, 0, 9, 5, 7, 6, 10, 11, 8]), false), (21, (some [8, 1, 0, 9, 5, 7, 6, 10]), false), (22, (some [8]), false), (23, (some [1, 0, 9, 5, 7, 6, 10, 8]), false), (24, (some [8, 1, 0, 9, 5, 7, 6, 10]), false), (25, (some [8, 1, 0, 9, 5, 10, 7, 6]), false), (26, (some [8, 1, 0]), false), (27, (some [8, 12]), false), (28, (some [8, 12]), false), (29, (some []), false), (30, (some [8, 1, 0, 9, 5, 10, 7, 6]), false), (31, (some [8, 1, 0]), false), (32, (some [13, 8]), false), (33, (some []), false), (34, (some [13, 8]), false), (35, (some []), false)]⟩
noncomputable def k90 : KFunc := kOf 8 (compF Tryz.prog nm hint90 Tryz.f90 true)
theorem link3 : compF Tryz.prog nm hint3 Tryz.f3 true = some k3.fn := by kernel_rfl
theorem link4 : compF Tryz.prog nm hint4 Tryz.f4 true = some k4.fn := by kernel_rfl
theorem link5 : compF Tryz.prog nm hint5 Tryz.f5 true = some k5.fn := by kernel_rfl
theorem link6 : compF Tryz.prog nm hint6 Tryz.f6 true = some k6.fn := by kernel_rfl
theorem link7 : compF Tryz.prog nm hint7 Tryz.f7 true = some k7.fn := by kernel_rfl
theorem link8 : compF Tryz.prog nm hint8 Tryz.f8 true = some k8.fn := by kernel_rfl
theorem link9 : compF Tryz.prog nm hint9 Tryz.f9 true = some k9.fn := by kernel_rfl
theorem link10 : compF Tryz.prog nm hint10 Tryz.f10 true = some k10.fn := by kernel_rfl
theorem link11 : compF Tryz.prog nm hint11 Tryz.f11 true = some k11.fn := by kernel_rfl
theorem link12 : compF Tryz.prog nm hint12 Tryz.f12 true = some k12.fn := by kernel_rfl
theorem link13 : compF Tryz.prog nm hint13 Tryz.f13 true = some k13.fn := by kernel_rfl
theorem link14 : compF Tryz.prog nm hint14 Tryz.f14 true = some k14.fn := by kernel_rfl
theorem link15 : compF Tryz.prog nm hint15 Tryz.f15 true = some k15.fn := by kernel_rfl
theorem link16 : compF Tryz.prog nm hint16 Tryz.f16 true = some k16.fn := by kernel_rfl
theorem link17 : compF Tryz.prog nm hint17 Tryz.f17 true = some k17.fn := by kernel_rfl
theorem link18 : compF Tryz.prog nm hint18 Tryz.f18 true = some k18.fn := by kernel_rfl
theorem link19 : compF Tryz.prog nm hint19 Tryz.f19 true = some k19.fn := by kernel_rfl
theorem link20 : compF Tryz.prog nm hint20 Tryz.f20 true = some k20.fn := by kernel_rfl
theorem link21 : compF Tryz.prog nm hint21 Tryz.f21 true = some k21.fn := by kernel_rfl
theorem link22 : compF Tryz.prog nm hint22 Tryz.f22 true = some k22.fn := by kernel_rfl
theorem link23 : compF Tryz.prog nm hint23 Tryz.f23 true = some k23.fn := by kernel_rfl
theorem link24 : compF Tryz.prog nm hint24 Tryz.f24 true = some k24.fn := by kernel_rfl
theorem link25 : compF Tryz.prog nm hint25 Tryz.f25 true = some k25.fn := by kernel_rfl
theorem link26 : compF Tryz.prog nm hint26 Tryz.f26 true = some k26.fn := by kernel_rfl
theorem link27 : compF Tryz.prog nm hint27 Tryz.f27 true = some k27.fn := by kernel_rfl
theorem link28 : compF Tryz.prog nm hint28 Tryz.f28 true = some k28.fn := by kernel_rfl
theorem link29 : compF Tryz.prog nm hint29 Tryz.f29 true = some k29.fn := by kernel_rfl
theorem link30 : compF Tryz.prog nm hint30 Tryz.f30 true = some k30.fn := by kernel_rfl
theorem link31 : compF Tryz.prog nm hint31 Tryz.f31 true = some k31.fn := by kernel_rfl
theorem link32 : compF Tryz.prog nm hint32 Tryz.f32 true = some k32.fn := by kernel_rfl
theorem link33 : compF Tryz.prog nm hint33 Tryz.f33 true = some k33.fn := by kernel_rfl
theorem link34 : compF Tryz.prog nm hint34 Tryz.f34 true = some k34.fn := by kernel_rfl
theorem link35 : compF Tryz.prog nm hint35 Tryz.f35 true = some k35.fn := by kernel_rfl
theorem link36 : compF Tryz.prog nm hint36 Tryz.f36 true = some k36.fn := by kernel_rfl
theorem link37 : compF Tryz.prog nm hint37 Tryz.f37 true = some k37.fn := by kernel_rfl
theorem link38 : compF Tryz.prog nm hint38 Tryz.f38 true = some k38.fn := by kernel_rfl
theorem link39 : compF Tryz.prog nm hint39 Tryz.f39 true = some k39.fn := by kernel_rfl
theorem link40 : compF Tryz.prog nm hint40 Tryz.f40 true = some k40.fn := by kernel_rfl
theorem link41 : compF Tryz.prog nm hint41 Tryz.f41 true = some k41.fn := by kernel_rfl
theorem link42 : compF Tryz.prog nm hint42 Tryz.f42 true = some k42.fn := by kernel_rfl
theorem link43 : compF Tryz.prog nm hint43 Tryz.f43 true = some k43.fn := by kernel_rfl
theorem link44 : compF Tryz.prog nm hint44 Tryz.f44 true = some k44.fn := by kernel_rfl
theorem link45 : compF Tryz.prog nm hint45 Tryz.f45 true = some k45.fn := by kernel_rfl
theorem link46 : compF Tryz.prog nm hint46 Tryz.f46 true = some k46.fn := by kernel_rfl
theorem link47 : compF Tryz.prog nm hint47 Tryz.f47 true = some k47.fn := by kernel_rfl
theorem link48 : compF Tryz.prog nm hint48 Tryz.f48 true = some k48.fn := by kernel_rfl
theorem link49 : compF Tryz.prog nm hint49 Tryz.f49 true = some k49.fn := by kernel_rfl
theorem link50 : compF Tryz.prog nm hint50 Tryz.f50 true = some k50.fn := by kernel_rfl
theorem link51 : compF Tryz.prog nm hint51 Tryz.f51 true = some k51.fn := by kernel_rfl
theorem link52 : compF Tryz.prog nm hint52 Tryz.f52 true = some k52.fn := by kernel_rfl
theorem link53 : compF Tryz.prog nm hint53 Tryz.f53 true = some k53.fn := by kernel_rfl
theorem link54 : compF Tryz.prog nm hint54 Tryz.f54 true = some k54.fn := by kernel_rfl
theorem link56 : compF Tryz.prog nm hint56 Tryz.f56 true = some k56.fn := by kernel_rfl
theorem link57 : compF Tryz.prog nm hint57 Tryz.f57 true = some k57.fn := by kernel_rfl
theorem link58 : compF Tryz.prog nm hint58 Tryz.f58 true = some k58.fn := by kernel_rfl
theorem link59 : compF Tryz.prog nm hint59 Tryz.f59 true = some k59.fn := by kernel_rfl
theorem link60 : compF Tryz.prog nm hint60 Tryz.f60 true = some k60.fn := by kernel_rfl
theorem link61 : compF Tryz.prog nm hint61 Tryz.f61 true = some k61.fn := by kernel_rfl
theorem link62 : compF Tryz.prog nm hint62 Tryz.f62 true = some k62.fn := by kernel_rfl
theorem link63 : compF Tryz.prog nm hint63 Tryz.f63 true = some k63.fn := by kernel_rfl
theorem link65 : compF Tryz.prog nm hint65 Tryz.f65 true = some k65.fn := by kernel_rfl
theorem link66 : compF Tryz.prog nm hint66 Tryz.f66 true = some k66.fn := by kernel_rfl
theorem link68 : compF Tryz.prog nm hint68 Tryz.f68 true = some k68.fn := by kernel_rfl
theorem link73 : compF Tryz.prog nm hint73 Tryz.f73 true = some k73.fn := by kernel_rfl
theorem link75 : compF Tryz.prog nm hint75 Tryz.f75 true = some k75.fn := by kernel_rfl
theorem link77 : compF Tryz.prog nm hint77 Tryz.f77 true = some k77.fn := by kernel_rfl
theorem link79 : compF Tryz.prog nm hint79 Tryz.f79 true = some k79.fn := by kernel_rfl
theorem link83 : compF Tryz.prog nm hint83 Tryz.f83 true = some k83.fn := by kernel_rfl
theorem link84 : compF Tryz.prog nm hint84 Tryz.f84 true = some k84.fn := by kernel_rfl
theorem link85 : compF Tryz.prog nm hint85 Tryz.f85 true = some k85.fn := by kernel_rfl
theorem link90 : compF Tryz.prog nm hint90 Tryz.f90 true = some k90.fn := by kernel_rfl
noncomputable def tab : Nat → Option IFunc
 | 3 => some k3.fn
 | 4 => some k4.fn
 | 5 => some k5.fn
 | 6 => some k6.fn
 | 7 => some k7.fn
 | 8 => some k8.fn
 | 9 => some k9.fn
 | 10 => some k10.fn
 | 11 => some k11.fn
 | 12 => some k12.fn
 | 13 => some k13.fn
 | 14 => some k14.fn
 | 15 => some k15.fn
 | 16 => some k16.fn
 | 17 => some k17.fn
 | 18 => some k18.fn
 | 19 => some k19.fn
 | 20 => some k20.fn
 | 21 => some k21.fn
 | 22 => some k22.fn
 | 23 => some k23.fn
 | 24 => some k24.fn
 | 25 => some k25.fn
 | 26 => some k26.fn
 | 27 => some k27.fn
 | 28 => some k28.fn
 | 29 => some k29.fn
 | 30 => some k30.fn
 | 31 => some k31.fn
 | 32 => some k32.fn
 | 33 => some k33.fn
 | 34 => some k34.fn
 | 35 => some k35.fn
 | 36 => some k36.fn
 | 37 => some k37.fn
 | 38 => some k38.fn
 | 39 => some k39.fn
 | 40 => some k40.fn
 | 41 => some k41.fn
 | 42 => some k42.fn
 | 43 => some k43.fn
 | 44 => some k44.fn
 | 45 => some k45.fn
 | 46 => some k46.fn
 | 47 => some k47.fn
 | 48 => some k48.fn
 | 49 => some k49.fn
 | 50 => some k50.fn
 | 51 => some k51.fn
 | 52 => some k52.fn
 | 53 => some k53.fn
 | 54 => some k54.fn
 | 56 => some k56.fn
 | 57 => some k57.fn
 | 58 => some k58.fn
 | 59 => some k59.fn
 | 60 => some k60.fn
 | 61 => some k61.fn
 | 62 => some k62.fn
 | 63 => some k63.fn
 | 65 => some k65.fn
 | 66 => some k66.fn
 | 68 => some k68.fn
 | 73 => some k73.fn
 | 75 => some k75.fn
 | 77 => some k77.fn
 | 79 => some k79.fn
 | 83 => some k83.fn
 | 84 => some k84.fn
 | 85 => some k85.fn
 | 90 => some k90.fn
 | _ => none
theorem tabOk : TabOk Tryz.prog nm tab := by
 refine ⟨by kernel_rfl, ?_⟩
 intro f fn fid h hn
 simp only [nm, Option.some.injEq] at hn
 subst hn
 unfold tab at h
 split at h
 · cases h; exact ⟨Tryz.f3, hint3, true, Tryz.func3, by kernel_rfl, link3⟩
 · cases h; exact ⟨Tryz.f4, hint4, true, Tryz.func4, by kernel_rfl, link4⟩
 · cases h; exact ⟨Tryz.f5, hint5, true, Tryz.func5, by kernel_rfl, link5⟩
 · cases h; exact ⟨Tryz.f6, hint6, true, Tryz.func6, by kernel_rfl, link6⟩
 · cases h; exact ⟨Tryz.f7, hint7, true, Tryz.func7, by kernel_rfl, link7⟩
 · cases h; exact ⟨Tryz.f8, hint8, true, Tryz.func8, by kernel_rfl, link8⟩
 · cases h; exact ⟨Tryz.f9, hint9, true, Tryz.func9, by kernel_rfl, link9⟩
 · cases h; exact ⟨Tryz.f10, hint10, true, Tryz.func10, by kernel_rfl, link10⟩
 · cases h; exact ⟨Tryz.f11, hint11, true, Tryz.func11, by kernel_rfl, link11⟩
 · cases h; exact ⟨Tryz.f12, hint12, true, Tryz.func12, by kernel_rfl, link12⟩
 · cases h; exact ⟨Tryz.f13, hint13, true, Tryz.func13, by kernel_rfl, link13⟩
 · cases h; exact ⟨Tryz.f14, hint14, true, Tryz.func14, by kernel_rfl, link14⟩
 · cases h; exact ⟨Tryz.f15, hint15, true, Tryz.func15, by kernel_rfl, link15⟩
 · cases h; exact ⟨Tryz.f16, hint16, true, Tryz.func16, by kernel_rfl, link16⟩
 · cases h; exact ⟨Tryz.f17, hint17, true, Tryz.func17, by kernel_rfl, link17⟩
 · cases h; exact ⟨Tryz.f18, hint18, true, Tryz.func18, by kernel_rfl, link18⟩
 · cases h; exact ⟨Tryz.f19, hint19, true, Tryz.func19, by kernel_rfl, link19⟩
 · cases h; exact ⟨Tryz.f20, hint20, true, Tryz.func20, by kernel_rfl, link20⟩
 · cases h; exact ⟨Tryz.f21, hint21, true, Tryz.func21, by kernel_rfl, link21⟩
 · cases h; exact ⟨Tryz.f22, hint22, true, Tryz.func22, by kernel_rfl, link22⟩
 · cases h; exact ⟨Tryz.f23, hint23, true, Tryz.func23, by kernel_rfl, link23⟩
 · cases h; exact ⟨Tryz.f24, hint24, true, Tryz.func24, by kernel_rfl, link24⟩
 · cases h; exact ⟨Tryz.f25, hint25, true, Tryz.func25, by kernel_rfl, link25⟩
 · cases h; exact ⟨Tryz.f26, hint26, true, Tryz.func26, by kernel_rfl, link26⟩
 · cases h; exact ⟨Tryz.f27, hint27, true, Tryz.func27, by kernel_rfl, link27⟩
 · cases h; exact ⟨Tryz.f28, hint28, true, Tryz.func28, by kernel_rfl, link28⟩
 · cases h; exact ⟨Tryz.f29, hint29, true, Tryz.func29, by kernel_rfl, link29⟩
 · cases h; exact ⟨Tryz.f30, hint30, true, Tryz.func30, by kernel_rfl, link30⟩
 · cases h; exact ⟨Tryz.f31, hint31, true, Tryz.func31, by kernel_rfl, link31⟩
 · cases h; exact ⟨Tryz.f32, hint32, true, Tryz.func32, by kernel_rfl, link32⟩
 · cases h; exact ⟨Tryz.f33, hint33, true, Tryz.func33, by kernel_rfl, link33⟩
 · cases h; exact ⟨Tryz.f34, hint34, true, Tryz.func34, by kernel_rfl, link34⟩
 · cases h; exact ⟨Tryz.f35, hint35, true, Tryz.func35, by kernel_rfl, link35⟩
 · cases h; exact ⟨Tryz.f36, hint36, true, Tryz.func36, by kernel_rfl, link36⟩
 · cases h; exact ⟨Tryz.f37, hint37, true, Tryz.func37, by kernel_rfl, link37⟩
 · cases h; exact ⟨Tryz.f38, hint38, true, Tryz.func38, by kernel_rfl, link38⟩
 · cases h; exact ⟨Tryz.f39, hint39, true, Tryz.func39, by kernel_rfl, link39⟩
 · cases h; exact ⟨Tryz.f40, hint40, true, Tryz.func40, by kernel_rfl, link40⟩
 · cases h; exact ⟨Tryz.f41, hint41, true, Tryz.func41, by kernel_rfl, link41⟩
 · cases h; exact ⟨Tryz.f42, hint42, true, Tryz.func42, by kernel_rfl, link42⟩
 · cases h; exact ⟨Tryz.f43, hint43, true, Tryz.func43, by kernel_rfl, link43⟩
 · cases h; exact ⟨Tryz.f44, hint44, true, Tryz.func44, by kernel_rfl, link44⟩
 · cases h; exact ⟨Tryz.f45, hint45, true, Tryz.func45, by kernel_rfl, link45⟩
 · cases h; exact ⟨Tryz.f46, hint46, true, Tryz.func46, by kernel_rfl, link46⟩
 · cases h; exact ⟨Tryz.f47, hint47, true, Tryz.func47, by kernel_rfl, link47⟩
 · cases h; exact ⟨Tryz.f48, hint48, true, Tryz.func48, by kernel_rfl, link48⟩
 · cases h; exact ⟨Tryz.f49, hint49, true, Tryz.func49, by kernel_rfl, link49⟩
 · cases h; exact ⟨Tryz.f50, hint50, true, Tryz.func50, by kernel_rfl, link50⟩
 · cases h; exact ⟨Tryz.f51, hint51, true, Tryz.func51, by kernel_rfl, link51⟩
 · cases h; exact ⟨Tryz.f52, hint52, true, Tryz.func52, by kernel_rfl, link52⟩
 · cases h; exact ⟨Tryz.f53, hint53, true, Tryz.func53, by kernel_rfl, link53⟩
 · cases h; exact ⟨Tryz.f54, hint54, true, Tryz.func54, by kernel_rfl, link54⟩
 · cases h; exact ⟨Tryz.f56, hint56, true, Tryz.func56, by kernel_rfl, link56⟩
 · cases h; exact ⟨Tryz.f57, hint57, true, Tryz.func57, by kernel_rfl, link57⟩
 · cases h; exact ⟨Tryz.f58, hint58, true, Tryz.func58, by kernel_rfl, link58⟩
 · cases h; exact ⟨Tryz.f59, hint59, true, Tryz.func59, by kernel_rfl, link59⟩
 · cases h; exact ⟨Tryz.f60, hint60, true, Tryz.func60, by kernel_rfl, link60⟩
 · cases h; exact ⟨Tryz.f61, hint61, true, Tryz.func61, by kernel_rfl, link61⟩
 · cases h; exact ⟨Tryz.f62, hint62, true, Tryz.func62, by kernel_rfl, link62⟩
 · cases h; exact ⟨Tryz.f63, hint63, true, Tryz.func63, by kernel_rfl, link63⟩
 · cases h; exact ⟨Tryz.f65, hint65, true, Tryz.func65, by kernel_rfl, link65⟩
 · cases h; exact ⟨Tryz.f66, hint66, true, Tryz.func66, by kernel_rfl, link66⟩
 · cases h; exact ⟨Tryz.f68, hint68, true, Tryz.func68, by kernel_rfl, link68⟩
 · cases h; exact ⟨Tryz.f73, hint73, true, Tryz.func73, by kernel_rfl, link73⟩
 · cases h; exact ⟨Tryz.f75, hint75, true, Tryz.func75, by kernel_rfl, link75⟩
 · cases h; exact ⟨Tryz.f77, hint77, true, Tryz.func77, by kernel_rfl, link77⟩
 · cases h; exact ⟨Tryz.f79, hint79, true, Tryz.func79, by kernel_rfl, link79⟩
 · cases h; exact ⟨Tryz.f83, hint83, true, Tryz.func83, by kernel_rfl, link83⟩
 · cases h; exact ⟨Tryz.f84, hint84, true, Tryz.func84, by kernel_rfl, link84⟩
 · cases h; exact ⟨Tryz.f85, hint85, true, Tryz.func85, by kernel_rfl, link85⟩
 · cases h; exact ⟨Tryz.f90, hint90, true, Tryz.func90, by kernel_rfl, link90⟩
 · cases h
end Go.Proofs.YtamcbchinhdniaaGreatDoor
