/- The functions that the law reaches as the evaluator takes them, and what they come to: printed by program. -/
import Derived.Test.YtaifamiafiefkaaGreatDoorChecked
import Derived.KernelRfl
import Derived.Test.YtaifamiafiefkaaGreatDoorAbs10
import Derived.Test.YtaifamiafiefkaaGreatDoorAbs3
set_option maxRecDepth 100000
set_option linter.unusedVariables false
namespace Go.Proofs.YtaifamiafiefkaaGreatDoor
open Go Go.Abs
def nm : FuncId → Option Nat := some
def imA (n c : Nat) : Bool := true
def imB (n c : Nat) : Bool := false
def noB (n : Nat) : Bool := (lkN [(39, true), (82, true), (83, true), (84, true), (85, true)] n).isSome
def resT : Nat → Option RS := lkN [
 (4, (.val (.one (.bool)) [])),
 (5, (.val (.one (.bool)) [])),
 (6, (.tup [(.one (.im 3)), (.one (.int .i64)), (.one (.int .i64))] [])),
 (7, (.val (.one (.str)) [])),
 (8, (.val (.one (.str)) [])),
 (9, (.val (.one (.str)) [])),
 (10, (.val (.one (.bool)) [])),
 (11, (.val (.one (.int .i64)) [])),
 (12, (.val (.one (.bool)) [])),
 (13, (.val (.one (.bool)) [])),
 (14, (.val (.one (.bool)) [])),
 (15, (.val (.one (.int .i64)) [])),
 (16, (.val (.one (.bool)) [])),
 (17, (.val (.one (.bool)) [])),
 (18, (.val (.one (.bool)) [])),
 (19, (.val (.one (.bool)) [])),
 (20, (.tup [(.one (.str)), (.one (.int .i64)), (.one (.bool))] [])),
 (21, (.val (.one (.str)) [])),
 (22, (.tup [] [])),
 (23, (.val (.one .str) [[.bld 66, .dead]])),
 (24, (.val (.agg [.int .i64, .int .i64, .int .i64]) [])),
 (25, (.tup [(.one (.int .i64)), .ifc] [])),
 (26, (.val (.one (.str)) [])),
 (27, (.val (.one (.str)) [])),
 (28, (.tup [] [])),
 (29, (.val (.one (.bool)) [])),
 (30, (.val (.one (.bool)) [])),
 (31, (.val (.one (.bool)) [])),
 (32, (.tup [(.one (.int .i64)), .ifc] [])),
 (33, (.val (.one (.int .u8)) [])),
 (34, (.val (.one (.bool)) [])),
 (35, (.val (.one (.int .u8)) [])),
 (36, (.val (.one (.str)) [])),
 (37, (.val (.one (.str)) [])),
 (38, (.val (.one (.str)) [])),
 (49, (.tup [] [])),
 (51, (.val (.one (.str)) [])),
 (54, (.tup [] [])),
 (55, (.tup [] [])),
 (57, (.val (.one (.bool)) [])),
 (58, (.val (.one (.bool)) [])),
 (61, (.val (.one (.str)) [])),
 (62, (.val (.one (.str)) [])),
 (63, (.val (.one (.str)) [])),
 (87, (.val (.one (.str)) []))]
def hint3 : Hint := ⟨105, 11, [], [], [(0, (some [0, 1]), false), (1, (some [0, 1]), false), (2, (some []), false), (3, (some [0, 1]), false), (4, (some []), false), (5, (some [0, 1]), false), (6, (some [5, 0, 7]), false), (7, (some [8, 9, 5, 0, 7]), false), (8, (some [9, 5, 0, 7, 10, 8]), true), (10, (some [9, 5, 0, 7, 10, 8]), false), (11, (some [9, 5, 0, 7, 10, 8]), false), (12, (some [9, 5, 0, 7, 10, 8]), false), (13, (some [9, 5, 0, 7, 10, 8]), false), (14, (some [8, 5, 0, 7, 10, 9]), false), (15, (some [8, 5, 0, 7, 10, 9]), false), (16, (some [8, 9, 5, 0, 7, 10]), false), (17, (some []), false), (9, (some [8, 9, 5, 0, 7, 10]), false), (18, (some [9, 0, 8, 7]), false)]⟩
noncomputable def k3 : KFunc := kOf 8 (compF Tryz.prog nm hint3 Tryz.f3 true)
noncomputable def k3_c0 : KCode := k3.body.at_ [1, 1, 1, 1, 1, 1]
noncomputable def k3_c1 : KCode := k3.body.at_ [1, 1, 1, 1, 1, 0, 1, 0, 0, 1, 1]
noncomputable def k3_b1 : KCode := k3.body.at_ [1, 1, 1, 1, 1, 0, 1, 0, 0, 1, 0, 0, 1]
noncomputable def k3_b0 : KCode := k3.body.at_ [1, 1, 1, 1, 1, 0, 1, 0, 0]
noncomputable def k3_b2 : KCode := k3.body.at_ [1, 1, 1]
def an3 : Ann := ⟨lkN [(41, [.int .i64]), (48, [.str]), (58, [.int .i64]), (65, [.str]), (75, [.int .i64]), (82, [.str])], resT, imB, noB⟩
noncomputable def h3_0 (Cl : Oracle) (n : Nat) (bx : List (List C)) (m0 : Nat) (S : Go.Abs.St) : Option (V × List (List C)) := iterK 0 (evCA an3 Cl n k3_b0) (some [9, 5, 0, 7, 10, 8]) true m0 S (blockK 0 (seqK (evCA an3 Cl n k3_c0) (retK [.slot 4] true bx)))
noncomputable def h3_1 (Cl : Oracle) (n : Nat) (bx : List (List C)) (m0 : Nat) (m1 : Nat) (S : Go.Abs.St) : Option (V × List (List C)) := jumpK 1 (evCA an3 Cl n k3_b1) m1 S (blockK 1 (seqK (evCA an3 Cl n k3_c1) (nextK (some [9, 5, 0, 7, 10, 8]) true (h3_0 Cl n bx m0) (blockK 0 (seqK (evCA an3 Cl n k3_c0) (retK [.slot 4] true bx))))))
noncomputable def h3_2 (Cl : Oracle) (n : Nat) (bx : List (List C)) (m2 : Nat) (S : Go.Abs.St) : Option (V × List (List C)) := jumpK 2 (evCA an3 Cl n k3_b2) m2 S (retK [.slot 4] true bx)
def hint4 : Hint := ⟨25, 3, [], [], [(0, (some []), false), (1, (some []), false), (2, (some [1]), false), (3, (some [2, 1]), false)]⟩
noncomputable def k4 : KFunc := kOf 8 (compF Tryz.prog nm hint4 Tryz.f4 true)
def an4 : Ann := ⟨lkN [(2, [.im 3, .im 2, .im 4]), (16, [.im 3, .im 2, .im 4])], resT, imB, noB⟩
def hint5 : Hint := ⟨27, 7, [], [], [(0, (some [1, 0]), false), (1, (some [1, 2]), false), (2, (some []), false), (3, (some [1, 2]), false), (4, (some [1, 2, 5]), false), (5, (some [1, 6, 2, 5]), false), (6, (some [1, 6]), false)]⟩
noncomputable def k5 : KFunc := kOf 8 (compF Tryz.prog nm hint5 Tryz.f5 true)
noncomputable def k5_b0 : KCode := k5.body.at_ [1, 1]
def an5 : Ann := ⟨lkN [(7, [.im 6]), (16, [.im 6]), (20, [.im 6]), (5, [.im 1])], resT, imB, noB⟩
noncomputable def h5_0 (Cl : Oracle) (n : Nat) (bx : List (List C)) (m0 : Nat) (S : Go.Abs.St) : Option (V × List (List C)) := jumpK 0 (evCA an5 Cl n k5_b0) m0 S (retK [.slot 4] true bx)
def hint6 : Hint := ⟨146, 15, [], [], [(0, (some [0]), false), (1, (some [0]), false), (2, (some []), false), (3, (some [0]), false), (4, (some [0, 5]), false), (5, (some [0, 5, 6]), true), (6, (some [0, 5, 6]), false), (7, (some [0, 5, 6, 7]), false), (8, (some [0, 5, 6, 8, 7]), false), (9, (some [0, 5, 6, 8, 7, 9]), false), (15, (some [0, 5, 6, 8, 7, 9]), false), (16, (some [0, 5, 6]), false), (17, (some [0, 5, 6, 8, 7, 9]), false), (18, (some [0, 5, 6]), false), (19, (some [0, 8, 5, 6, 7, 9]), false), (20, (some [0, 8, 5, 6]), false), (21, (some [0, 8, 5, 6]), false), (22, (some [6, 0, 8, 5, 7, 9]), false), (23, (some [6, 0, 8, 5]), false), (24, (some [6, 0, 8, 5]), false), (25, (some [6, 0, 10, 8, 5]), false), (26, (some [6]), false), (27, (some [6, 0, 8, 5, 7]), false), (28, (some [6, 0, 8, 5]), false), (29, (some [6, 0, 12, 8, 5, 11, 13]), false), (30, (some [6]), false), (31, (some [0, 12, 8, 5, 11]), false), (32, (some [0, 12, 8, 5, 11]), false), (33, (some [0, 12, 8, 5]), false), (34, (some [0, 5, 12]), false), (10, (some [6, 0, 8, 5]), false), (11, (some [6, 0, 8, 5, 14]), false), (12, (some [6]), false), (13, (some [0, 8, 5, 6, 14]), false), (14, (some [0, 8, 5, 6, 14]), false), (35, (some [0, 10, 8, 5, 6]), false), (36, (some [0, 10, 8, 5]), false), (37, (some [0, 5, 10]), false), (38, (some [5]), false)]⟩
noncomputable def k6 : KFunc := kOf 8 (compF Tryz.prog nm hint6 Tryz.f6 true)
noncomputable def k6_c0 : KCode := k6.body.at_ [1, 1, 1, 1, 1]
noncomputable def k6_b1 : KCode := k6.body.at_ [1, 1, 1, 1, 0, 0, 0, 1, 0, 1, 1, 1, 1, 1]
noncomputable def k6_b2 : KCode := k6.body.at_ [1, 1, 1, 1, 0, 0, 0, 1, 0, 1, 1, 1]
noncomputable def k6_b0 : KCode := k6.body.at_ [1, 1, 1, 1, 0, 0, 0]
def an6 : Ann := ⟨lkN [(8, [.int .i64, .str, .int .i64]), (53, [.int .i64, .str, .int .i64]), (92, [.int .i64]), (102, [.int .i64]), (127, [.int .i64]), (129, [.str]), (131, [.int .i64, .str, .int .i64]), (65, [.int .i64]), (139, [.str]), (141, [.int .i64, .str, .int .i64])], resT, imB, noB⟩
noncomputable def h6_0 (Cl : Oracle) (n : Nat) (bx : List (List C)) (m0 : Nat) (S : Go.Abs.St) : Option (V × List (List C)) := iterK 0 (evCA an6 Cl n k6_b0) (some [0, 5, 6]) true m0 S (blockK 0 (seqK (evCA an6 Cl n k6_c0) (retK [.slot 2, .slot 3, .slot 4] true bx)))
noncomputable def h6_1 (Cl : Oracle) (n : Nat) (bx : List (List C)) (m0 : Nat) (m1 : Nat) (S : Go.Abs.St) : Option (V × List (List C)) := jumpK 1 (evCA an6 Cl n k6_b1) m1 S (blockK 1 (nextK (some [0, 5, 6]) true (h6_0 Cl n bx m0) (blockK 0 (seqK (evCA an6 Cl n k6_c0) (retK [.slot 2, .slot 3, .slot 4] true bx)))))
noncomputable def h6_2 (Cl : Oracle) (n : Nat) (bx : List (List C)) (m0 : Nat) (m2 : Nat) (S : Go.Abs.St) : Option (V × List (List C)) := jumpK 2 (evCA an6 Cl n k6_b2) m2 S (blockK 1 (nextK (some [0, 5, 6]) true (h6_0 Cl n bx m0) (blockK 0 (seqK (evCA an6 Cl n k6_c0) (retK [.slot 2, .slot 3, .slot 4] true bx)))))
def hint7 : Hint := ⟨18, 6, [], [], [(0, (some [1, 0]), false), (1, (some [1, 0]), false), (2, (some []), false), (3, (some [1, 0]), false), (4, (some [5, 1, 0]), false), (5, (some [5]), false)]⟩
noncomputable def k7 : KFunc := kOf 8 (compF Tryz.prog nm hint7 Tryz.f7 true)
def an7 : Ann := ⟨lkN [], resT, imB, noB⟩
def hint8 : Hint := ⟨53, 10, [], [], [(0, (some [0]), false), (1, (some [1]), false), (2, (some []), false), (3, (some [1]), false), (4, (some [3, 1]), false), (5, (some [3, 17, 1, 18, 19]), true), (6, (some [3, 17, 1, 18, 19]), false), (7, (some [3, 17, 1, 18, 19, 5]), false), (8, (some [3, 17, 1, 18, 19]), false), (9, (some [3, 1]), false), (10, (some [3, 29, 1, 30, 31]), true), (11, (some [3, 29, 1, 30, 31]), false), (12, (some [3, 29, 1, 30, 31, 7]), false), (13, (some [3, 29, 1, 30, 31]), false), (14, (some [3, 1]), false), (15, (some [3, 41, 42, 43]), true), (16, (some [3, 41, 42, 43]), false), (17, (some [3, 41, 42, 43, 9]), false), (18, (some [3, 41, 42, 43]), false), (19, (some [3]), false)]⟩
noncomputable def k8 : KFunc := kOf 8 (compF Tryz.prog nm hint8 Tryz.f8 true)
noncomputable def k8_c0 : KCode := k8.body.at_ [1, 1, 1, 1, 1, 1]
noncomputable def k8_b0 : KCode := k8.body.at_ [1, 1, 1, 1, 1, 0, 1, 0, 0]
noncomputable def k8_c1 : KCode := k8.body.at_ [1, 1, 1, 1, 1]
noncomputable def k8_b1 : KCode := k8.body.at_ [1, 1, 1, 1, 0, 1, 0, 0]
noncomputable def k8_c2 : KCode := k8.body.at_ [1, 1, 1, 1]
noncomputable def k8_b2 : KCode := k8.body.at_ [1, 1, 1, 0, 1, 0, 0]
def an8 : Ann := ⟨lkN [(10, [.im 3, .im 2, .im 4]), (17, [.im 3]), (22, [.str, .im 1, .im 3]), (5, [.str, .im 1, .im 3]), (24, [.str, .im 1, .im 3]), (29, [.im 2]), (34, [.str, .im 3]), (7, [.str, .im 3]), (36, [.str, .im 3]), (41, [.im 4]), (46, [.str, .im 3, .im 6, .im 10]), (9, [.str, .im 3, .im 6, .im 10]), (48, [.str, .im 3, .im 6, .im 10])], resT, imA, noB⟩
noncomputable def h8_0 (Cl : Oracle) (n : Nat) (bx : List (List C)) (m0 : Nat) (S : Go.Abs.St) : Option (V × List (List C)) := iterK 0 (evCA an8 Cl n k8_b0) (some [3, 41, 42, 43]) true m0 S (blockK 4 (seqK (evCA an8 Cl n k8_c0) (retK [.slot 2] true bx)))
noncomputable def h8_1 (Cl : Oracle) (n : Nat) (bx : List (List C)) (m1 : Nat) (S : Go.Abs.St) : Option (V × List (List C)) := iterK 1 (evCA an8 Cl n k8_b1) (some [3, 29, 1, 30, 31]) true m1 S (blockK 2 (seqK (evCA an8 Cl n k8_c1) (retK [.slot 2] true bx)))
noncomputable def h8_2 (Cl : Oracle) (n : Nat) (bx : List (List C)) (m2 : Nat) (S : Go.Abs.St) : Option (V × List (List C)) := iterK 2 (evCA an8 Cl n k8_b2) (some [3, 17, 1, 18, 19]) true m2 S (blockK 0 (seqK (evCA an8 Cl n k8_c2) (retK [.slot 2] true bx)))
def hint9 : Hint := ⟨26, 3, [], [], [(0, (some [0]), false), (1, (some [1]), false), (2, (some []), false), (3, (some [1]), false), (4, (some [1, 12]), false), (5, (some []), false), (6, (some [1, 12]), false), (7, (some []), false), (8, (some [1, 12]), false), (9, (some []), false), (10, (some [1, 12]), false), (11, (some []), false), (12, (some [1, 12]), false), (13, (some []), false), (14, (some [1]), false)]⟩
noncomputable def k9 : KFunc := kOf 8 (compF Tryz.prog nm hint9 Tryz.f9 true)
def an9 : Ann := ⟨lkN [(3, [.int .i64, .str]), (12, [.int .i64]), (24, [.str])], resT, imB, noB⟩
def hint10 : Hint := ⟨71, 9, [], [], [(0, (some [1, 4, 0, 3, 2]), false), (1, (some [1, 4, 0, 3, 2]), false), (2, (some [1, 4, 0, 8, 3]), false), (3, (some [1, 4, 0, 9, 8, 3]), false), (4, (some []), false), (5, (some [1, 4, 0, 9, 8, 3]), false), (6, (some [1, 4, 0, 9, 8]), false), (7, (some [1, 4, 0, 9, 43, 44, 45]), true), (8, (some [1, 4, 0, 9, 43, 44, 45]), false), (9, (some [1, 4, 0, 9, 43, 44, 45, 11, 10]), false), (10, (some [1, 4, 0, 9, 43, 44, 45, 11]), false), (11, (some []), false), (12, (some [1, 4, 0, 9, 43, 44, 45, 11]), false), (13, (some []), false), (14, (some [1, 4, 0, 9, 43, 44, 45]), false), (15, (some []), false)]⟩
noncomputable def k10 : KFunc := kOf 8 (compF Tryz.prog nm hint10 Tryz.f10 true)
noncomputable def k10_c0 : KCode := k10.body.at_ [1, 1, 1, 1, 1, 1]
noncomputable def k10_b0 : KCode := k10.body.at_ [1, 1, 1, 1, 1, 0, 1, 0, 0]
noncomputable def k10_b1 : KCode := k10.body.at_ [1, 1, 1, 1]
def an10 : Ann := ⟨lkN [(12, [.im 6]), (15, [.int .i64, .str, .int .i64, .str, .int .i64, .int .i64]), (8, [.int .i64, .str, .int .i64, .str, .int .i64, .int .i64]), (17, [.int .i64]), (19, [.im 1]), (22, [.bool]), (32, [.int .i64, .str, .int .i64, .str, .int .i64, .int .i64]), (36, [.im 1]), (38, [.bool]), (40, [.int .i64]), (42, [.int .i64]), (49, [.int .i64])], resT, imB, noB⟩
noncomputable def h10_0 (Cl : Oracle) (n : Nat) (bx : List (List C)) (m0 : Nat) (S : Go.Abs.St) : Option (V × List (List C)) := iterK 0 (evCA an10 Cl n k10_b0) (some [1, 4, 0, 9, 43, 44, 45]) true m0 S (blockK 0 (seqK (evCA an10 Cl n k10_c0) (retK [.slot 7] true bx)))
noncomputable def h10_1 (Cl : Oracle) (n : Nat) (bx : List (List C)) (m1 : Nat) (S : Go.Abs.St) : Option (V × List (List C)) := jumpK 1 (evCA an10 Cl n k10_b1) m1 S (retK [.slot 7] true bx)
def hint11 : Hint := ⟨27, 3, [], [], [(0, (some [0]), false), (1, (some [0]), false), (2, (some [3]), false), (3, (some [3]), false), (4, (some [3]), false), (5, (some [3]), false), (6, (some [3]), false), (7, (some [3]), false), (8, (some []), false), (9, (some [3]), false), (10, (some [3]), false), (11, (some []), false), (12, (some [3]), false), (13, (some [3]), false), (14, (some [3]), false), (15, (some [3]), false), (16, (some [3]), false), (17, (some [3]), false), (18, (some [3]), false), (19, (some [3]), false), (20, (some [3]), false), (21, (some [3]), false), (22, (some [3]), false), (23, (some [3]), false), (24, (some []), false), (25, (some []), false)]⟩
noncomputable def k11 : KFunc := kOf 8 (compF Tryz.prog nm hint11 Tryz.f11 true)
noncomputable def k11_b0 : KCode := k11.body.at_ [1, 1]
def an11 : Ann := ⟨lkN [], resT, imB, noB⟩
noncomputable def h11_0 (Cl : Oracle) (n : Nat) (bx : List (List C)) (m0 : Nat) (S : Go.Abs.St) : Option (V × List (List C)) := jumpK 0 (evCA an11 Cl n k11_b0) m0 S (retK [.slot 2] true bx)
def hint12 : Hint := ⟨79, 3, [], [], [(0, (some [0]), false), (1, (some [1]), false), (2, (some [1, 4]), false), (3, (some [1]), false), (4, (some [1, 4]), false), (5, (some [1]), false), (6, (some [1, 4]), false), (7, (some [1]), false), (8, (some [1, 4]), false), (9, (some [1]), false), (10, (some [1]), false)]⟩
noncomputable def k12 : KFunc := kOf 8 (compF Tryz.prog nm hint12 Tryz.f12 true)
def an12 : Ann := ⟨lkN [(4, [.int .i64]), (8, [.str]), (12, [.int .i64]), (17, [.str]), (23, [.str]), (27, [.str]), (33, [.str]), (37, [.str]), (42, [.int .i64]), (46, [.int .i64]), (53, [.str]), (57, [.int .i64]), (62, [.str]), (67, [.str]), (71, [.int .i64]), (76, [.str])], resT, imB, noB⟩
def hint13 : Hint := ⟨9, 3, [], [], [(0, (some [0]), false), (1, (some [0]), false)]⟩
noncomputable def k13 : KFunc := kOf 8 (compF Tryz.prog nm hint13 Tryz.f13 true)
def an13 : Ann := ⟨lkN [], resT, imB, noB⟩
def hint14 : Hint := ⟨17, 3, [], [], [(0, (some [0]), false), (1, (some [1]), false), (2, (some [1, 4]), false), (3, (some [1]), false), (4, (some [1, 4]), false), (5, (some [1, 4]), false), (6, (some []), false), (7, (some [1]), false)]⟩
noncomputable def k14 : KFunc := kOf 8 (compF Tryz.prog nm hint14 Tryz.f14 true)
def an14 : Ann := ⟨lkN [(4, [.int .i64]), (8, [.str]), (15, [.str])], resT, imB, noB⟩
def hint15 : Hint := ⟨21, 7, [], [], [(0, (some [1, 0, 2]), false), (1, (some [0, 2, 1]), true), (2, (some [0, 2, 1]), false), (3, (some [1]), false)]⟩
noncomputable def k15 : KFunc := kOf 8 (compF Tryz.prog nm hint15 Tryz.f15 true)
noncomputable def k15_c0 : KCode := k15.body.at_ [1, 1]
noncomputable def k15_b0 : KCode := k15.body.at_ [1, 0, 0, 0]
def an15 : Ann := ⟨lkN [], resT, imB, noB⟩
noncomputable def h15_0 (Cl : Oracle) (n : Nat) (bx : List (List C)) (m0 : Nat) (S : Go.Abs.St) : Option (V × List (List C)) := iterK 0 (evCA an15 Cl n k15_b0) (some [0, 2, 1]) true m0 S (blockK 0 (seqK (evCA an15 Cl n k15_c0) (retK [.slot 6] true bx)))
def hint16 : Hint := ⟨5, 3, [], [], [(0, (some [0]), false), (1, (some [0]), false)]⟩
noncomputable def k16 : KFunc := kOf 8 (compF Tryz.prog nm hint16 Tryz.f16 true)
def hint17 : Hint := ⟨9, 3, [], [], [(0, (some [0]), false), (1, (some [0]), false)]⟩
noncomputable def k17 : KFunc := kOf 8 (compF Tryz.prog nm hint17 Tryz.f17 true)
def an17 : Ann := ⟨lkN [], resT, imB, noB⟩
def hint18 : Hint := ⟨9, 3, [], [], [(0, (some [0]), false), (1, (some [0]), false)]⟩
noncomputable def k18 : KFunc := kOf 8 (compF Tryz.prog nm hint18 Tryz.f18 true)
def an18 : Ann := ⟨lkN [], resT, imB, noB⟩
def hint19 : Hint := ⟨46, 6, [], [], [(0, (some [0]), false), (1, (some [0]), false), (2, (some [0, 3]), false), (3, (some [0, 3]), false), (4, (some [0, 3]), false), (5, (some []), false), (6, (some [0]), false), (7, (some [5]), false)]⟩
noncomputable def k19 : KFunc := kOf 8 (compF Tryz.prog nm hint19 Tryz.f19 true)
noncomputable def k19_b0 : KCode := k19.body.at_ [1, 1, 1, 1]
noncomputable def k19_b1 : KCode := k19.body.at_ [1, 1, 1]
def an19 : Ann := ⟨lkN [], resT, imB, noB⟩
noncomputable def h19_0 (Cl : Oracle) (n : Nat) (bx : List (List C)) (m0 : Nat) (S : Go.Abs.St) : Option (V × List (List C)) := jumpK 0 (evCA an19 Cl n k19_b0) m0 S (retK [.slot 2] true bx)
noncomputable def h19_1 (Cl : Oracle) (n : Nat) (bx : List (List C)) (m1 : Nat) (S : Go.Abs.St) : Option (V × List (List C)) := jumpK 1 (evCA an19 Cl n k19_b1) m1 S (retK [.slot 2] true bx)
def hint20 : Hint := ⟨95, 10, [], [], [(0, (some [1, 0]), false), (1, (some [2, 1]), false), (2, (some [7, 2, 1]), false), (3, (some [7, 2, 8, 1]), false), (4, (some [1, 7, 2, 8]), true), (6, (some [1, 7, 2, 8]), false), (8, (some [1, 7, 2, 8, 9]), false), (9, (some [1, 7]), false), (10, (some [2, 8, 7, 1, 9]), false), (11, (some [2, 8, 7, 1]), false), (12, (some [2, 8, 1, 7]), false), (14, (some [2, 8, 1, 7, 40]), false), (15, (some [2, 8, 1, 7, 40]), false), (16, (some [2, 8, 1, 7]), false), (17, (some [2, 8, 1, 7, 40]), false), (18, (some [2, 8, 1, 7]), false), (19, (some [2, 8, 1, 7, 40]), false), (20, (some [2, 8, 1, 7]), false), (21, (some []), false), (22, (some [2, 8, 1, 7]), false), (23, (some [7, 2, 8, 1]), false), (13, (some []), false), (24, (some [2, 8, 1, 9, 7]), false), (25, (some []), false), (7, (some [2, 8, 1, 9, 7]), false), (5, (some [7, 2, 8, 1]), false), (26, (some []), false)]⟩
noncomputable def k20 : KFunc := kOf 8 (compF Tryz.prog nm hint20 Tryz.f20 true)
noncomputable def k20_c0 : KCode := k20.body.at_ [1, 1, 1, 1]
noncomputable def k20_b2 : KCode := k20.body.at_ [1, 1, 1, 0, 1, 0, 0, 1, 1]
noncomputable def k20_b1 : KCode := k20.body.at_ [1, 1, 1, 0, 1, 0, 0, 1, 0, 0, 1, 0, 1, 1, 1, 0, 1, 1, 0, 1, 1, 1, 1, 1, 0, 1]
noncomputable def k20_b0 : KCode := k20.body.at_ [1, 1, 1, 0, 1, 0, 0]
def an20 : Ann := ⟨lkN [(14, [.str]), (19, [.str]), (45, [.str]), (72, [.str]), (78, [.str])], resT, imB, noB⟩
noncomputable def h20_0 (Cl : Oracle) (n : Nat) (bx : List (List C)) (m0 : Nat) (S : Go.Abs.St) : Option (V × List (List C)) := iterK 0 (evCA an20 Cl n k20_b0) (some [1, 7, 2, 8]) true m0 S (blockK 0 (seqK (evCA an20 Cl n k20_c0) (retK [.slot 4, .slot 5, .slot 6] true bx)))
noncomputable def h20_2 (Cl : Oracle) (n : Nat) (bx : List (List C)) (m0 : Nat) (m2 : Nat) (S : Go.Abs.St) : Option (V × List (List C)) := jumpK 2 (evCA an20 Cl n k20_b2) m2 S (nextK (some [1, 7, 2, 8]) true (h20_0 Cl n bx m0) (blockK 0 (seqK (evCA an20 Cl n k20_c0) (retK [.slot 4, .slot 5, .slot 6] true bx))))
noncomputable def h20_1 (Cl : Oracle) (n : Nat) (bx : List (List C)) (m0 : Nat) (m1 : Nat) (S : Go.Abs.St) : Option (V × List (List C)) := jumpK 1 (evCA an20 Cl n k20_b1) m1 S (blockK 3 (blockK 2 (blockK 1 (seqK (joinK 2 (some [7, 2, 8, 1]) false n (evCA an20 Cl n k20_b2)) (nextK (some [1, 7, 2, 8]) true (h20_0 Cl n bx m0) (blockK 0 (seqK (evCA an20 Cl n k20_c0) (retK [.slot 4, .slot 5, .slot 6] true bx))))))))
def hint21 : Hint := ⟨44, 6, [], [], [(0, (some [1, 0]), false), (1, (some [1, 0]), false), (2, (some [1, 0]), false), (3, (some [5, 1, 0]), false), (4, (some [5, 1, 0, 16]), false), (5, (some [5, 1, 0, 16]), false), (6, (some [5]), false), (7, (some [1, 0]), false), (8, (some [1, 0, 23]), false), (9, (some [1, 0, 23]), false), (10, (some [1, 0, 23]), false), (11, (some [1, 0, 23]), false), (12, (some [1, 0, 23]), false), (13, (some [1, 0, 23]), false), (14, (some [1, 0, 23]), false), (15, (some [1, 0, 23]), false), (16, (some [1, 0, 23]), false), (17, (some [1, 0, 23]), false), (18, (some [1, 0, 23]), false), (19, (some [1, 0, 23]), false), (20, (some [1, 0, 23]), false), (21, (some [1, 0, 23]), false), (22, (some [1, 0]), false), (23, (some []), false)]⟩
noncomputable def k21 : KFunc := kOf 8 (compF Tryz.prog nm hint21 Tryz.f21 true)
noncomputable def k21_b0 : KCode := k21.body.at_ [1, 1, 1]
noncomputable def k21_b1 : KCode := k21.body.at_ [1, 1]
def an21 : Ann := ⟨lkN [], resT, imB, noB⟩
noncomputable def h21_0 (Cl : Oracle) (n : Nat) (bx : List (List C)) (m0 : Nat) (S : Go.Abs.St) : Option (V × List (List C)) := jumpK 0 (evCA an21 Cl n k21_b0) m0 S (retK [.slot 4] true bx)
noncomputable def h21_1 (Cl : Oracle) (n : Nat) (bx : List (List C)) (m1 : Nat) (S : Go.Abs.St) : Option (V × List (List C)) := jumpK 1 (evCA an21 Cl n k21_b1) m1 S (retK [.slot 4] true bx)
def hint22 : Hint := ⟨81, 7, [], [], [(0, (some [0, 1, 2]), false), (7, (some [6, 0, 1]), false), (8, (some [6, 0]), false), (9, (some [0, 6, 1]), false), (10, (some [0, 6, 1]), false), (11, (some [0, 6, 1]), false), (12, (some [0]), false), (13, (some [0, 6, 1]), false), (14, (some [0, 6, 1]), false), (15, (some [0, 6, 1]), false), (16, (some [0, 6, 1]), false), (17, (some [0, 6, 1]), false), (18, (some [0]), false), (1, (some [0, 6, 1]), false), (2, (some [0, 6, 1]), false), (3, (some [0, 6, 1]), false), (4, (some [0, 6, 1]), false), (5, (some [0, 6, 1]), false), (6, (some [0]), false)]⟩
noncomputable def k22 : KFunc := kOf 8 (compF Tryz.prog nm hint22 Tryz.f22 true)
def an22 : Ann := ⟨lkN [(10, [.int .i64, .str, .int .i64, .str, .int .i64, .int .i64]), (6, [.int .i64, .str, .int .i64, .str, .int .i64, .int .i64]), (36, [.int .i64]), (39, [.int .i64, .str, .int .i64, .str, .int .i64, .int .i64]), (44, [.int .i64]), (51, [.int .i64]), (57, [.int .i64]), (65, [.int .i64]), (69, [.int .i64]), (77, [.int .i64]), (13, [.int .i64]), (20, [.int .i64]), (23, [.int .i64]), (30, [.int .i64])], resT, imB, noB⟩
def hint23 : Hint := ⟨14, 3, [], [], [(0, (some [0]), false), (1, (some [0]), false)]⟩
noncomputable def k23 : KFunc := kOf 8 (compF Tryz.prog nm hint23 Tryz.f23 true)
def an23 : Ann := ⟨lkN [(6, [.im 1]), (11, [.im 1])], resT, imB, noB⟩
def hint24 : Hint := ⟨32, 8, [2], [], [(0, (some [0]), false), (1, (some [2, 1]), false), (2, (some [2, 3, 1]), false), (3, (some [2, 4]), false), (4, (some [2, 18, 19, 20]), true), (5, (some [2, 18, 19, 20]), false), (6, (some [2, 18, 19, 20, 6]), false), (7, (some [2, 7, 18, 19, 20]), false), (8, (some [2, 7]), false), (9, (some [2, 18, 19, 20]), false), (10, (some [2]), false)]⟩
noncomputable def k24 : KFunc := kOf 8 (compF Tryz.prog nm hint24 Tryz.f24 true)
def hint25 : Hint := ⟨19, 6, [], [], [(0, (some [1, 0]), false), (1, (some [1, 0]), false), (2, (some [1, 0]), false), (3, (some [1]), false)]⟩
noncomputable def k25 : KFunc := kOf 8 (compF Tryz.prog nm hint25 Tryz.f25 true)
def an25 : Ann := ⟨lkN [(12, [.im 1]), (16, [.im 1])], resT, imB, noB⟩
def hint28 : Hint := ⟨40, 7, [], [], [(0, (some [0, 1]), false), (1, (some [0, 3]), false), (2, (some [4, 0, 3]), false), (3, (some [8, 0, 3, 9, 10, 4]), true), (4, (some [8, 0, 3, 9, 10, 4]), false), (5, (some [8, 0, 3, 9, 10, 6, 4]), false), (6, (some [4, 8, 0, 3, 9, 10]), false), (7, (some [0, 3, 4]), false), (8, (some [0, 3]), false), (9, (some [0]), false)]⟩
noncomputable def k28 : KFunc := kOf 8 (compF Tryz.prog nm hint28 Tryz.f28 true)
def hint29 : Hint := ⟨52, 5, [], [], [(0, (some [0]), false), (1, (some [1]), false), (2, (some []), false), (3, (some [1]), false), (4, (some [1, 16, 17, 18]), true), (5, (some [1, 16, 17, 18]), false), (6, (some [1, 16, 17, 18, 4]), false), (8, (some [1, 16, 17, 18, 4, 23]), false), (9, (some [1, 16, 17, 18, 4]), false), (10, (some []), false), (11, (some [1, 16, 17, 18, 4, 23]), false), (12, (some [1, 16, 17, 18, 4, 23]), false), (13, (some [1, 16, 17, 18, 4]), false), (14, (some []), false), (7, (some []), false), (15, (some [1, 16, 17, 18]), false), (16, (some []), false)]⟩
noncomputable def k29 : KFunc := kOf 8 (compF Tryz.prog nm hint29 Tryz.f29 true)
def hint30 : Hint := ⟨40, 4, [], [], [(0, (some [0]), false), (1, (some [0]), false), (2, (some []), false), (3, (some [0]), false), (4, (some [0, 3]), true), (6, (some [0, 3]), false), (7, (some []), false), (5, (some [0, 3]), false), (8, (some []), false)]⟩
noncomputable def k30 : KFunc := kOf 8 (compF Tryz.prog nm hint30 Tryz.f30 true)
noncomputable def k30_c0 : KCode := k30.body.at_ [1, 1, 1]
noncomputable def k30_b0 : KCode := k30.body.at_ [1, 1, 0, 1, 0, 0]
noncomputable def k30_b1 : KCode := k30.body.at_ [1, 1]
def an30 : Ann := ⟨lkN [], resT, imB, noB⟩
noncomputable def h30_0 (Cl : Oracle) (n : Nat) (bx : List (List C)) (m0 : Nat) (S : Go.Abs.St) : Option (V × List (List C)) := iterK 0 (evCA an30 Cl n k30_b0) (some [0, 3]) true m0 S (blockK 0 (seqK (evCA an30 Cl n k30_c0) (retK [.slot 2] true bx)))
noncomputable def h30_1 (Cl : Oracle) (n : Nat) (bx : List (List C)) (m1 : Nat) (S : Go.Abs.St) : Option (V × List (List C)) := jumpK 1 (evCA an30 Cl n k30_b1) m1 S (retK [.slot 2] true bx)
def hint31 : Hint := ⟨46, 3, [], [], [(0, (some [0]), false), (1, (some [0]), false), (2, (some [3]), false), (3, (some [3]), false), (4, (some [3]), false), (5, (some [3]), false), (6, (some [3]), false), (7, (some [3]), false), (8, (some [3]), false), (9, (some [3]), false), (10, (some [3]), false), (11, (some [3]), false), (12, (some [3]), false), (13, (some [3]), false), (14, (some [3]), false), (15, (some []), false), (16, (some [3]), false), (17, (some [3]), false), (18, (some [3]), false), (19, (some [3]), false), (20, (some [3]), false), (21, (some [3]), false), (22, (some [3]), false), (23, (some [3]), false), (24, (some [3]), false), (25, (some [3]), false), (26, (some [3]), false), (27, (some [3]), false), (28, (some [3]), false), (29, (some []), false), (30, (some [3]), false), (31, (some [3]), false), (32, (some [3]), false), (33, (some [3]), false), (34, (some [3]), false), (35, (some [3]), false), (36, (some [3]), false), (37, (some [3]), false), (38, (some [3]), false), (39, (some [3]), false), (40, (some [3]), false), (41, (some [3]), false), (42, (some [3]), false), (43, (some []), false), (44, (some []), false)]⟩
noncomputable def k31 : KFunc := kOf 8 (compF Tryz.prog nm hint31 Tryz.f31 true)
noncomputable def k31_b0 : KCode := k31.body.at_ [1, 1]
def an31 : Ann := ⟨lkN [], resT, imB, noB⟩
noncomputable def h31_0 (Cl : Oracle) (n : Nat) (bx : List (List C)) (m0 : Nat) (S : Go.Abs.St) : Option (V × List (List C)) := jumpK 0 (evCA an31 Cl n k31_b0) m0 S (retK [.slot 2] true bx)
def hint33 : Hint := ⟨11, 3, [], [], [(0, (some [0, 1]), false), (1, (some [0, 1]), false), (2, (some [0, 1]), false), (3, (some []), false)]⟩
noncomputable def k33 : KFunc := kOf 8 (compF Tryz.prog nm hint33 Tryz.f33 true)
def an33 : Ann := ⟨lkN [(5, [.str]), (8, [.str])], resT, imB, noB⟩
def hint34 : Hint := ⟨13, 3, [], [], [(0, (some [0]), false), (1, (some [0]), false)]⟩
noncomputable def k34 : KFunc := kOf 8 (compF Tryz.prog nm hint34 Tryz.f34 true)
def an34 : Ann := ⟨lkN [], resT, imB, noB⟩
def hint35 : Hint := ⟨10, 3, [], [], [(0, (some [0]), false), (1, (some [0]), false), (2, (some [0]), false), (3, (some [0]), false)]⟩
noncomputable def k35 : KFunc := kOf 8 (compF Tryz.prog nm hint35 Tryz.f35 true)
def an35 : Ann := ⟨lkN [], resT, imB, noB⟩
def hint36 : Hint := ⟨27, 3, [], [], [(0, (some [0]), false), (1, (some [1]), false), (2, (some [1, 4]), false), (3, (some [1]), false), (4, (some [1, 4]), false), (5, (some [1]), false), (6, (some [1, 4]), false), (7, (some [1]), false), (8, (some [1, 4]), false), (9, (some [1]), false), (10, (some [4]), false), (11, (some []), false), (12, (some []), false)]⟩
noncomputable def k36 : KFunc := kOf 8 (compF Tryz.prog nm hint36 Tryz.f36 true)
def an36 : Ann := ⟨lkN [(4, [.int .i64]), (8, [.str]), (12, [.int .i64]), (17, [.int .i64]), (23, [.str])], resT, imB, noB⟩
def hint37 : Hint := ⟨22, 3, [], [], [(0, (some [0]), false), (1, (some [0]), false), (2, (some [3]), false), (3, (some []), false), (4, (some [3]), false), (5, (some []), false), (6, (some [3]), false), (7, (some []), false), (8, (some [3]), false), (9, (some []), false), (10, (some [3]), false), (11, (some []), false), (12, (some [3]), false), (13, (some []), false), (14, (some [3]), false), (15, (some []), false), (16, (some [3]), false), (17, (some []), false), (18, (some [3]), false), (19, (some []), false), (20, (some []), false)]⟩
noncomputable def k37 : KFunc := kOf 8 (compF Tryz.prog nm hint37 Tryz.f37 true)
def an37 : Ann := ⟨lkN [], resT, imB, noB⟩
def hint38 : Hint := ⟨10, 3, [], [], [(0, (some [0]), false), (1, (some [0]), false), (2, (some [3]), false), (3, (some []), false), (4, (some [3]), false), (5, (some []), false), (6, (some [3]), false), (7, (some []), false), (8, (some []), false)]⟩
noncomputable def k38 : KFunc := kOf 8 (compF Tryz.prog nm hint38 Tryz.f38 true)
def an38 : Ann := ⟨lkN [], resT, imB, noB⟩
def hint39 : Hint := ⟨5, 3, [], [], [(0, (some [1, 0]), false), (1, (some [1, 2]), false)]⟩
noncomputable def k39 : KFunc := kOf 8 (compF Tryz.prog nm hint39 Tryz.f39 true)
def hint40 : Hint := ⟨30, 5, [2], [], [(0, (some [0, 1]), false), (1, (some [2, 0, 1]), false), (2, (some [2, 0, 1, 9, 10]), true), (3, (some [2, 0, 1, 9, 10]), false), (4, (some [2, 3, 0, 1, 9, 10]), false), (5, (some [2, 3, 0, 13, 1, 9, 10, 14, 15]), true), (6, (some [2, 3, 0, 13, 1, 9, 10, 14, 15]), false), (7, (some [2, 3, 0, 13, 1, 9, 10, 14, 15, 5]), false), (8, (some [2, 6, 3, 0, 13, 1, 9, 10, 14, 15]), false), (9, (some [2, 6]), false), (10, (some [2, 3, 0, 13, 1, 9, 10, 14, 15]), false), (11, (some [2, 0, 1, 9, 10]), false), (12, (some [2]), false)]⟩
noncomputable def k40 : KFunc := kOf 8 (compF Tryz.prog nm hint40 Tryz.f40 true)
def hint41 : Hint := ⟨4, 1, [1], [], [(0, (some [0]), false), (1, (some [1, 0]), false)]⟩
noncomputable def k41 : KFunc := kOf 8 (compF Tryz.prog nm hint41 Tryz.f41 true)
def hint42 : Hint := ⟨55, 7, [2], [], [(0, (some [0]), false), (1, (some [2, 1]), false), (2, (some [2]), false), (3, (some [2, 1]), false), (4, (some [2, 25, 1, 26, 27]), true), (5, (some [2, 25, 1, 26, 27]), false), (6, (some [2, 25, 1, 26, 27, 4]), false), (7, (some [2]), false), (8, (some [2, 25, 1, 26, 27]), false), (9, (some [2, 1]), false), (10, (some [2, 37, 38, 39]), true), (11, (some [2, 37, 38, 39]), false), (12, (some [2, 37, 38, 39, 6]), false), (13, (some [2]), false), (14, (some [2, 37, 38, 39]), false), (15, (some [2]), false)]⟩
noncomputable def k42 : KFunc := kOf 8 (compF Tryz.prog nm hint42 Tryz.f42 true)
def hint43 : Hint := ⟨86, 10, [4], [], [(0, (some [1, 0]), false), (1, (some [4, 1, 2]), false), (2, (some [4, 1, 5, 2]), false), (3, (some [6, 4, 1, 5, 2]), false), (4, (some [7, 6, 4, 1, 5, 2]), false), (5, (some [43, 4, 1, 5, 2, 44, 45, 7, 6]), true), (6, (some [43, 4, 1, 5, 2, 44, 45, 7, 6]), false), (7, (some [43, 4, 1, 5, 2, 44, 45, 9, 7, 6]), false), (8, (some [6, 43, 4, 1, 5, 2, 44, 45, 9, 7]), false), (9, (some [7, 6, 43, 4, 1, 5, 2, 44, 45]), false), (10, (some [4, 1, 7, 5, 2, 6]), false), (11, (some [4, 1]), false), (12, (some [4, 1, 7, 5, 2]), false), (13, (some [4, 1]), false), (14, (some [4]), false)]⟩
noncomputable def k43 : KFunc := kOf 8 (compF Tryz.prog nm hint43 Tryz.f43 true)
def hint44 : Hint := ⟨154, 17, [4], [], [(0, (some [1, 0]), false), (1, (some [4, 1, 2]), false), (2, (some [4, 1, 5]), false), (3, (some [4, 1, 6, 5]), false), (4, (some [4, 1, 7, 6, 5]), false), (5, (some [4, 1, 7, 6, 5, 8]), false), (6, (some [4, 1, 7, 6, 5, 8, 35, 36, 37]), true), (7, (some [4, 1, 7, 6, 5, 8, 35, 36, 37]), false), (8, (some [4, 9, 1, 7, 6, 5, 8, 35, 36, 37, 10]), false), (9, (some [4, 9, 1]), false), (10, (some [4, 9, 1, 7, 6, 5, 8, 35, 36, 37, 10]), false), (11, (some [4, 9, 1]), false), (12, (some [4, 9, 1, 7, 6, 5, 8, 35, 36, 37, 10]), false), (13, (some [4, 9, 1, 7, 6, 5, 8, 35, 36, 37, 10]), false), (14, (some [4, 9, 1, 7, 6, 5, 8, 35, 36, 37, 10]), false), (15, (some [4, 9, 1, 7, 6, 5, 75, 8, 35, 36, 37, 10, 76, 77]), true), (16, (some [4, 9, 1, 7, 6, 5, 75, 8, 35, 36, 37, 10, 76, 77]), false), (17, (some [4, 9, 1, 7, 6, 5, 75, 8, 35, 36, 37, 10, 76, 77, 12]), false), (18, (some [4, 9, 1]), false), (19, (some [4, 9, 1, 7, 6, 5, 75, 8, 35, 36, 37, 10, 76, 77, 12]), false), (20, (some [4, 9, 1, 7, 6, 5, 75, 8, 35, 36, 37, 10, 76, 77, 12]), false), (21, (some [4, 9, 1, 7, 6, 5, 75, 8, 35, 36, 37, 10, 76, 77]), false), (22, (some [4, 9, 1, 8, 5, 7, 6, 35, 36, 37, 10]), false), (23, (some [4, 9, 1]), false), (24, (some [4, 9, 1, 8, 5, 7, 6, 35, 36, 37, 10]), false), (25, (some [4, 9, 1, 8, 5, 117, 7, 6, 35, 36, 37, 118, 119]), true), (26, (some [4, 9, 1, 8, 5, 117, 7, 6, 35, 36, 37, 118, 119]), false), (27, (some [4, 9, 1, 8, 5, 117, 7, 6, 35, 36, 37, 118, 119, 14]), false), (28, (some [4, 9, 1]), false), (29, (some [4, 9, 1, 8, 5, 117, 7, 6, 35, 36, 37, 118, 119, 14]), false), (30, (some [4, 9, 1, 8, 134, 5, 117, 7, 6, 35, 36, 37, 118, 119, 135, 136]), true), (31, (some [4, 9, 1, 8, 134, 5, 117, 7, 6, 35, 36, 37, 118, 119, 135, 136]), false), (32, (some [4, 9, 1, 8, 134, 5, 117, 7, 6, 35, 36, 37, 118, 119, 135, 136, 16]), false), (33, (some [4, 9, 1]), false), (34, (some [4, 9, 1, 8, 134, 5, 117, 7, 6, 35, 36, 37, 118, 119, 135, 136, 16]), false), (35, (some [4, 9, 1, 8, 134, 5, 117, 7, 6, 35, 36, 37, 118, 119, 135, 136]), false), (36, (some [4, 9, 1, 8, 5, 117, 7, 6, 35, 36, 37, 118, 119]), false), (37, (some [4, 1, 7, 6, 5, 8, 35, 36, 37]), false), (38, (some [4]), false)]⟩
noncomputable def k44 : KFunc := kOf 8 (compF Tryz.prog nm hint44 Tryz.f44 true)
def hint45 : Hint := ⟨19, 2, [1], [], [(0, (some [0]), false), (1, (some [1, 0]), false), (2, (some [1, 2, 0]), false), (3, (some [1]), false), (4, (some [1]), false)]⟩
noncomputable def k45 : KFunc := kOf 8 (compF Tryz.prog nm hint45 Tryz.f45 true)
def hint46 : Hint := ⟨22, 6, [], [], [(0, (some [1, 0]), false), (1, (some [1, 2]), false), (2, (some [1, 2, 8, 9]), true), (3, (some [1, 2, 8, 9]), false), (4, (some [5, 1, 2, 8, 9]), false), (5, (some [5]), false), (6, (some [1, 2, 8, 9]), false), (7, (some []), false)]⟩
noncomputable def k46 : KFunc := kOf 8 (compF Tryz.prog nm hint46 Tryz.f46 true)
def hint48 : Hint := ⟨103, 15, [4], [], [(0, (some [1, 0]), false), (1, (some [4, 1, 2]), false), (2, (some [4, 1, 5, 2]), false), (3, (some [6, 4, 1, 5, 2]), false), (4, (some [6, 25, 4, 1, 5, 2, 26, 27]), true), (5, (some [6, 25, 4, 1, 5, 2, 26, 27]), false), (6, (some [6, 25, 4, 1, 5, 2, 26, 27, 8]), false), (7, (some [6, 25, 4, 1, 5, 2, 26, 27]), false), (8, (some [4, 1, 6, 5, 2]), false), (9, (some [4, 1, 6, 5, 2, 42, 43, 44]), true), (10, (some [4, 1, 6, 5, 2, 42, 43, 44]), false), (11, (some [4, 9, 1, 6, 5, 2, 42, 43, 44, 10]), false), (12, (some [4, 9, 1, 11, 6, 5, 2, 42, 43, 44, 10]), false), (13, (some [4, 9, 1, 11]), false), (14, (some [6, 9, 4, 1, 5, 2, 42, 43, 44, 10]), false), (15, (some [12, 6, 9, 4, 1, 5, 2, 42, 43, 44, 10]), false), (16, (some [12, 6, 9, 66, 4, 1, 5, 2, 42, 43, 44, 67, 68]), true), (17, (some [12, 6, 9, 66, 4, 1, 5, 2, 42, 43, 44, 67, 68]), false), (18, (some [12, 6, 9, 66, 4, 1, 5, 2, 42, 43, 44, 67, 68, 13, 14]), false), (19, (some [12, 6, 9, 66, 4, 1, 5, 2, 42, 43, 44, 67, 68, 13, 14]), false), (20, (some [12, 6, 9, 66, 4, 1, 5, 2, 42, 43, 44, 67, 68, 13, 14]), false), (21, (some [12, 6, 9, 66, 4, 1, 5, 2, 42, 43, 44, 67, 68]), false), (22, (some [4, 1, 6, 5, 2, 42, 43, 44]), false), (23, (some [4]), false)]⟩
noncomputable def k48 : KFunc := kOf 8 (compF Tryz.prog nm hint48 Tryz.f48 true)
def hint51 : Hint := ⟨75, 11, [], [], [(0, (some [0, 1]), false), (1, (some [0, 1]), false), (2, (some [0, 1, 12]), false), (3, (some []), false), (4, (some [0, 1, 12]), false), (5, (some [0]), false), (6, (some [1, 0]), false), (7, (some [1, 0, 5]), false), (8, (some [1, 0, 5]), false), (9, (some [1, 0, 5]), false), (10, (some [1, 0, 5]), false), (11, (some [5, 1, 0]), false), (12, (some [39, 1, 0, 40, 41, 5]), true), (13, (some [39, 1, 0, 40, 41, 5]), false), (14, (some [39, 1, 0, 40, 41, 7, 5]), false), (15, (some [39, 1, 0, 40, 41, 7, 5]), false), (16, (some [39, 1, 0, 40, 41, 7, 5]), false), (17, (some [5, 39, 1, 0, 40, 41]), false), (18, (some [1, 0, 5]), false), (19, (some [8, 1, 0, 5]), false), (20, (some [8, 1, 0]), false), (21, (some [8, 1, 0]), false), (22, (some [8, 1, 63, 64, 65]), true), (23, (some [8, 1, 63, 64, 65]), false), (24, (some [8, 1, 63, 64, 65, 10]), false), (25, (some [8, 1, 63, 64, 65, 10]), false), (26, (some [8, 1, 63, 64, 65]), false), (27, (some [8]), false)]⟩
noncomputable def k51 : KFunc := kOf 8 (compF Tryz.prog nm hint51 Tryz.f51 true)
def hint54 : Hint := ⟨13, 6, [], [], [(0, (some [2, 1, 0]), false)]⟩
noncomputable def k54 : KFunc := kOf 8 (compF Tryz.prog nm hint54 Tryz.f54 true)
def hint55 : Hint := ⟨224, 11, [], [], [(0, (some [3, 0, 2, 1]), false), (1, (some [3, 5, 0, 2]), false), (2, (some [3, 8, 5, 0]), false), (3, (some [3, 8, 5, 0, 17]), false), (4, (some [3, 8, 5, 0]), false), (5, (some [3, 8, 5, 0, 17]), false), (6, (some [3, 8, 5, 0]), false), (7, (some [3, 8, 5, 0, 17]), false), (8, (some [3, 8, 5, 0]), false), (9, (some [3, 8, 5, 0, 17]), false), (10, (some [3, 8, 5, 0]), false), (11, (some [3, 8, 5, 0, 17]), false), (12, (some [3, 8, 5, 0]), false), (13, (some [3, 8, 5, 0]), false), (14, (some [3, 8, 5, 0]), false), (15, (some [3, 8, 5, 0]), false), (16, (some [3, 8, 5, 0]), false), (17, (some [3, 8, 5, 0, 17]), false), (18, (some [3, 8, 5, 0]), false), (19, (some [3, 0, 5, 8, 17]), false), (20, (some [3, 0, 5, 8]), false), (21, (some [3, 0, 5, 8]), false), (22, (some [3, 0, 5, 132, 8, 133, 134]), true), (23, (some [3, 0, 5, 132, 8, 133, 134]), false), (24, (some [3, 0, 5, 132, 8, 133, 134, 10]), false), (25, (some [3, 0, 5, 132, 8, 133, 134, 10]), false), (26, (some [3, 0, 5, 132, 8, 133, 134, 10]), false), (27, (some [3, 0, 5, 132, 8, 133, 134, 10]), false), (28, (some [3, 0, 5, 132, 8, 133, 134]), false), (29, (some [3, 0, 5, 132, 8, 133, 134]), false), (30, (some [3, 8, 5, 0]), false), (31, (some [3, 8, 5, 0, 17]), false), (32, (some [3, 8, 5, 0]), false), (33, (some [3, 8, 5, 0, 17]), false), (34, (some [3, 8, 5, 0]), false), (35, (some [3, 8, 5, 0, 17]), false), (36, (some [3, 8, 5, 0]), false), (37, (some [3, 8, 5, 0, 17]), false), (38, (some [3, 8, 5, 0]), false), (39, (some [3, 8, 5, 0]), false), (40, (some [3, 8, 5, 0]), false)]⟩
noncomputable def k55 : KFunc := kOf 8 (compF Tryz.prog nm hint55 Tryz.f55 true)
def hint56 : Hint := ⟨54, 8, [], [], [(0, (some [1, 0]), false), (1, (some [1, 0]), false), (2, (some []), false), (3, (some [1, 0]), false), (4, (some [5, 1, 0]), false), (5, (some [5, 1, 17, 18, 19]), true), (6, (some [5, 1, 17, 18, 19]), false), (7, (some [5, 1, 17, 18, 19, 7]), false), (8, (some []), false), (9, (some [5, 1, 17, 18, 19, 7]), false), (10, (some [5, 1, 17, 18, 19]), false), (11, (some []), false)]⟩
noncomputable def k56 : KFunc := kOf 8 (compF Tryz.prog nm hint56 Tryz.f56 true)
def hint57 : Hint := ⟨9, 3, [], [], [(0, (some [0]), false), (1, (some [0]), false)]⟩
noncomputable def k57 : KFunc := kOf 8 (compF Tryz.prog nm hint57 Tryz.f57 true)
def an57 : Ann := ⟨lkN [], resT, imB, noB⟩
def hint58 : Hint := ⟨9, 3, [], [], [(0, (some [0]), false), (1, (some [0]), false)]⟩
noncomputable def k58 : KFunc := kOf 8 (compF Tryz.prog nm hint58 Tryz.f58 true)
def an58 : Ann := ⟨lkN [], resT, imB, noB⟩
def hint62 : Hint := ⟨5, 3, [], [], [(0, (some [0]), false), (1, (some [0]), false)]⟩
noncomputable def k62 : KFunc := kOf 8 (compF Tryz.prog nm hint62 Tryz.f62 true)
def an62 : Ann := ⟨lkN [], resT, imB, noB⟩
def hint63 : Hint := ⟨57, 6, [], [], [(0, (some [0]), false), (1, (some [0]), false), (2, (some [3, 0]), false), (3, (some [0, 4, 3]), true), (5, (some [0, 4, 3]), false), (7, (some [0, 4, 5, 3]), false), (8, (some [0, 4, 5, 3]), false), (9, (some [0, 4, 3, 5]), false), (10, (some [0, 4, 3]), false), (11, (some [0, 4, 5, 3]), false), (12, (some [0, 4, 5, 3]), false), (6, (some [0, 4, 5, 3]), false), (4, (some [3, 0, 4]), false), (13, (some [3]), false)]⟩
noncomputable def k63 : KFunc := kOf 8 (compF Tryz.prog nm hint63 Tryz.f63 true)
noncomputable def k63_c0 : KCode := k63.body.at_ [1, 1, 1]
noncomputable def k63_b1 : KCode := k63.body.at_ [1, 1, 0, 1, 0, 0, 1, 1]
noncomputable def k63_b0 : KCode := k63.body.at_ [1, 1, 0, 1, 0, 0]
def an63 : Ann := ⟨lkN [], resT, imB, noB⟩
noncomputable def h63_0 (Cl : Oracle) (n : Nat) (bx : List (List C)) (m0 : Nat) (S : Go.Abs.St) : Option (V × List (List C)) := iterK 0 (evCA an63 Cl n k63_b0) (some [0, 4, 3]) true m0 S (blockK 0 (seqK (evCA an63 Cl n k63_c0) (retK [.slot 2] true bx)))
noncomputable def h63_1 (Cl : Oracle) (n : Nat) (bx : List (List C)) (m0 : Nat) (m1 : Nat) (S : Go.Abs.St) : Option (V × List (List C)) := jumpK 1 (evCA an63 Cl n k63_b1) m1 S (nextK (some [0, 4, 3]) true (h63_0 Cl n bx m0) (blockK 0 (seqK (evCA an63 Cl n k63_c0) (retK [.slot 2] true bx))))
def hint65 : Hint := ⟨18, 4, [], [], [(0, (some [0]), false), (1, (some [0]), false), (2, (some [0, 5, 6]), true), (3, (some [0, 5, 6]), false), (4, (some [0, 5, 6, 3]), false), (5, (some []), false), (6, (some [0, 5, 6]), false), (7, (some []), false)]⟩
noncomputable def k65 : KFunc := kOf 8 (compF Tryz.prog nm hint65 Tryz.f65 true)
def hint66 : Hint := ⟨169, 6, [], [], [(0, (some [0]), false), (1, (some [1]), false), (2, (some []), false), (3, (some [1]), false), (4, (some [1, 3]), false), (5, (some []), false), (6, (some [1]), false), (7, (some [1, 63]), false), (8, (some [1, 63]), false), (9, (some [1]), false), (10, (some [1, 63]), false), (11, (some [1]), false), (12, (some [1, 63]), false), (13, (some [1]), false), (14, (some [1, 63]), false), (15, (some [1]), false), (16, (some [1, 63]), false), (17, (some [1, 63]), false), (18, (some [1]), false), (19, (some [1, 63]), false), (20, (some [1]), false), (21, (some []), false), (22, (some [1]), false), (23, (some [146, 147, 148]), true), (24, (some [146, 147, 148]), false), (25, (some [146, 147, 148, 5]), false), (26, (some []), false), (27, (some [146, 147, 148]), false), (28, (some []), false)]⟩
noncomputable def k66 : KFunc := kOf 8 (compF Tryz.prog nm hint66 Tryz.f66 true)
def hint67 : Hint := ⟨26, 6, [], [], [(0, (some [0]), false), (1, (some [1]), false), (2, (some [1]), false), (3, (some [1]), false), (4, (some [3, 1]), false), (5, (some [13, 14, 15, 3]), true), (6, (some [13, 14, 15, 3]), false), (7, (some [13, 14, 15, 5, 3]), false), (8, (some [3, 13, 14, 15]), false), (9, (some [3]), false)]⟩
noncomputable def k67 : KFunc := kOf 8 (compF Tryz.prog nm hint67 Tryz.f67 true)
def hint68 : Hint := ⟨44, 6, [], [], [(0, (some [0]), false), (1, (some [1]), false), (2, (some [1, 3]), false), (3, (some [1, 3, 7]), false), (4, (some [1, 3, 7]), false), (5, (some [1, 3, 7]), false), (6, (some [1, 3]), false), (7, (some [1, 3, 7]), false), (8, (some [1, 3]), false), (9, (some [1, 3]), false), (10, (some [1, 3]), false), (11, (some [3, 1]), false), (12, (some [32, 33, 34, 3]), true), (13, (some [32, 33, 34, 3]), false), (14, (some [32, 33, 34, 5, 3]), false), (15, (some [3, 32, 33, 34]), false), (16, (some [3]), false)]⟩
noncomputable def k68 : KFunc := kOf 8 (compF Tryz.prog nm hint68 Tryz.f68 true)
def hint70 : Hint := ⟨115, 18, [], [], [(0, (some [3, 2, 1, 0]), false), (1, (some [5, 3, 4, 6]), false), (2, (some [5, 9, 3, 4, 6]), false), (3, (some [5, 19, 3, 4, 6, 20, 21, 9]), true), (4, (some [5, 19, 3, 4, 6, 20, 21, 9]), false), (5, (some [5, 19, 3, 4, 6, 20, 21, 11, 9]), false), (6, (some [5, 9, 19, 3, 4, 6, 20, 21]), false), (7, (some [3, 4, 6, 9]), false), (8, (some [3, 4, 6, 9]), false), (9, (some [3, 4, 6, 9]), false), (10, (some [3, 50, 4, 6, 51, 52]), true), (11, (some [3, 50, 4, 6, 51, 52]), false), (12, (some [3, 50, 4, 6, 51, 52, 13]), false), (13, (some []), false), (14, (some [3, 50, 4, 6, 51, 52]), false), (15, (some [3, 4, 6]), false), (16, (some [3, 62, 4, 6, 63, 64]), true), (17, (some [3, 62, 4, 6, 63, 64]), false), (18, (some [3, 62, 4, 6, 63, 64, 15]), false), (19, (some []), false), (20, (some [3, 62, 4, 6, 63, 64]), false), (21, (some [4, 6]), false), (22, (some []), false), (23, (some [4, 6]), false), (24, (some [4, 90, 6, 91, 92]), true), (25, (some [4, 90, 6, 91, 92]), false), (26, (some [4, 90, 6, 91, 92, 17]), false), (27, (some []), false), (28, (some [4, 90, 6, 91, 92]), false), (29, (some [6, 4]), false), (30, (some []), false), (31, (some []), false)]⟩
noncomputable def k70 : KFunc := kOf 8 (compF Tryz.prog nm hint70 Tryz.f70 true)
def hint71 : Hint := ⟨34, 6, [], [], [(0, (some [0]), false), (1, (some [1]), false), (2, (some [1, 7]), false), (3, (some [1, 7]), false), (4, (some [1]), false), (5, (some [1, 7]), false), (6, (some [1]), false), (7, (some [3, 1]), false), (8, (some [17, 18, 19, 3]), true), (9, (some [17, 18, 19, 3]), false), (10, (some [17, 18, 19, 5, 3]), false), (11, (some [3, 17, 18, 19]), false), (12, (some [3]), false), (13, (some [1]), false)]⟩
noncomputable def k71 : KFunc := kOf 8 (compF Tryz.prog nm hint71 Tryz.f71 true)
def hint77 : Hint := ⟨125, 11, [], [], [(0, (some [0, 1]), false), (1, (some [0, 1]), false), (2, (some [0, 1, 11]), false), (3, (some []), false), (4, (some [0, 1, 11]), false), (5, (some [0]), false), (6, (some [0, 1]), false), (7, (some [0, 1]), false), (8, (some [0, 1]), false), (9, (some [0, 6, 5]), false), (10, (some [0, 6]), false), (11, (some [0, 6]), false), (12, (some [7, 0]), false), (13, (some []), false), (14, (some [7, 0]), false), (15, (some [7, 0, 42]), false), (16, (some [7, 0, 42]), false), (17, (some [7, 0, 42]), false), (18, (some [7, 0, 42]), false), (19, (some [7, 0, 42]), false), (20, (some [7, 0]), false), (21, (some [7]), false), (22, (some [7, 0]), false), (23, (some [7]), false), (24, (some [7, 0]), false), (25, (some [7]), false), (26, (some [7, 0]), false), (27, (some [7]), false), (28, (some [7, 0]), false), (29, (some [7]), false), (30, (some [7, 0]), false), (31, (some [7, 0, 8]), false), (32, (some [7, 0]), false), (33, (some [7, 0, 8]), false), (34, (some [7, 0]), false), (35, (some [8, 7, 0]), false), (36, (some [9, 8, 7, 0]), false), (37, (some [9, 8, 7, 0]), false), (38, (some [9, 8, 7]), true), (39, (some [9, 8, 7]), false), (40, (some [9, 8, 7, 10]), false), (41, (some [9]), false)]⟩
noncomputable def k77 : KFunc := kOf 8 (compF Tryz.prog nm hint77 Tryz.f77 true)
def hint80 : Hint := ⟨37, 6, [], [], [(0, (some [0]), false), (1, (some [1]), false), (2, (some []), false), (3, (some [1]), false), (4, (some [1]), false), (5, (some [1]), false), (6, (some [4, 5, 3]), false)]⟩
noncomputable def k80 : KFunc := kOf 8 (compF Tryz.prog nm hint80 Tryz.f80 true)
def hint87 : Hint := ⟨4, 3, [], [], [(0, (some [0]), false), (1, (some [0]), false), (2, (some []), false), (3, (some []), false)]⟩
noncomputable def k87 : KFunc := kOf 8 (compF Tryz.prog nm hint87 Tryz.f87 true)
def an87 : Ann := ⟨lkN [], resT, imB, noB⟩
def hint89 : Hint := ⟨46, 3, [2], [], [(0, (some [0]), false), (1, (some [2, 1]), false), (2, (some [2, 1, 4]), false), (3, (some [2, 1]), false), (4, (some [2, 1, 4]), false), (5, (some [2, 1]), false), (6, (some [2, 1, 4]), false), (7, (some [2, 1]), false), (8, (some [2, 1, 4]), false), (9, (some [2, 1]), false), (10, (some [2, 1, 4]), false), (11, (some [2, 1]), false), (12, (some [2, 1, 4]), false), (13, (some [2, 1, 4]), false), (14, (some [2, 1]), false), (15, (some [2, 1, 4]), false), (16, (some [2, 1]), false), (17, (some [2, 1, 4]), false), (18, (some [2, 1]), false), (19, (some [2, 1]), false), (20, (some [2, 1]), false), (21, (some [2, 1]), false)]⟩
noncomputable def k89 : KFunc := kOf 8 (compF Tryz.prog nm hint89 Tryz.f89 true)
def hint91 : Hint := ⟨11, 3, [], [], [(0, (some [0]), false), (1, (some [0]), false), (2, (some [3]), false), (3, (some [3]), false), (4, (some [3]), false), (5, (some [3]), false), (6, (some [3]), false), (7, (some [3]), false), (8, (some []), false), (9, (some []), false)]⟩
noncomputable def k91 : KFunc := kOf 8 (compF Tryz.prog nm hint91 Tryz.f91 true)
def hint100 : Hint := ⟨13, 7, [], [], [(0, (some [1, 0]), false), (1, (some [1, 0]), false)]⟩
noncomputable def k100 : KFunc := kOf 8 (compF Tryz.prog nm hint100 Tryz.f100 true)
def hint116 : Hint := ⟨23, 8, [], [], [(0, (some [1, 0]), false), (1, (some [1, 0]), false), (2, (some [1, 7, 0]), false), (3, (some [1, 7, 0]), false), (4, (some [0]), false)]⟩
noncomputable def k116 : KFunc := kOf 8 (compF Tryz.prog nm hint116 Tryz.f116 true)
def hint124 : Hint := ⟨143, 14, [], [], [(0, (some [1, 0]), false), (1, (some [1, 0]), false), (2, (some [1, 0, 5]), false), (3, (some []), false), (4, (some [1, 0, 5]), false), (5, (some [1, 0]), false), (6, (some [1, 0, 5]), false), (7, (some []), false), (8, (some [1, 0, 5]), false), (9, (some [1, 0]), false), (10, (some [1, 0, 5]), false), (11, (some [1, 0, 5, 6]), false), (12, (some [1, 0, 5, 7, 6]), false), (13, (some [1, 0, 5, 7, 8, 6]), false), (14, (some [1, 0, 9, 5, 7, 8, 6]), false), (15, (some [1, 0, 9, 5, 7, 6, 10, 8]), true), (16, (some [1, 0, 9, 5, 7, 6, 10, 8]), false), (17, (some [1, 0, 9, 5, 7, 6, 10, 8]), false), (18, (some [1, 0, 9, 5, 7, 6, 10, 11, 8]), false), (19, (some []), false), (20, (some [1, 0, 9, 5, 7, 6, 10, 11, 8]), false), (21, (some [8, 1, 0, 9, 5, 7, 6, 10]), false), (22, (some [8]), false), (23, (some [1, 0, 9, 5, 7, 6, 10, 8]), false), (24, (some [8, 1, 0, 9, 5, 7, 6, 10]), false), (25, (some [8, 1, 0, 9, 5, 10, 7, 6]), false), (26, (some [8, 1, 0]), false), (27, (some [8, 12]), false), (28, (some [8, 12]), false), (29, (some []), false), (30, (some [8, 1, 0, 9, 5, 10, 7, 6]), false), (31, (some [8, 1, 0]), false), (32, (some [13, 8]), false), (33, (some []), false), (34, (some [13, 8]), false), (35, (some []), false)]⟩
noncomputable def k124 : KFunc := kOf 8 (compF Tryz.prog nm hint124 Tryz.f124 true)
theorem link3 : compF Tryz.prog nm hint3 Tryz.f3 true = some k3.fn := by kernel_rfl
theorem link4 : compF Tryz.prog nm hint4 Tryz.f4 true = some k4.fn := by kernel_rfl
theorem link5 : compF Tryz.prog nm hint5 Tryz.f5 true = some k5.fn := by kernel_rfl
theorem link6 : compF Tryz.prog nm hint6 Tryz.f6 true = some k6.fn := by kernel_rfl
theorem link7 : compF Tryz.prog nm hint7 Tryz.f7 true = some k7.fn := by kernel_rfl
theorem link8 : compF Tryz.prog nm hint8 Tryz.f8 true = some k8.fn := by kernel_rfl
theorem link9 : compF Tryz.prog nm hint9 Tryz.f9 true = some k9.fn := by kernel_rfl
theorem link10 : compF Tryz.prog nm hint10 Tryz.f10 true = some k10.fn := by kernel_rfl
theorem link11 : compF Tryz.prog nm hint11 Tryz.f11 true = some k11.fn := by kernel_rfl
theorem link12 : compF Tryz.prog nm hint12 Tryz.f12 true = some k12.fn := by kernel_rfl
theorem link13 : compF Tryz.prog nm hint13 Tryz.f13 true = some k13.fn := by kernel_rfl
theorem link14 : compF Tryz.prog nm hint14 Tryz.f14 true = some k14.fn := by kernel_rfl
theorem link15 : compF Tryz.prog nm hint15 Tryz.f15 true = some k15.fn := by kernel_rfl
theorem link16 : compF Tryz.prog nm hint16 Tryz.f16 true = some k16.fn := by kernel_rfl
theorem link17 : compF Tryz.prog nm hint17 Tryz.f17 true = some k17.fn := by kernel_rfl
theorem link18 : compF Tryz.prog nm hint18 Tryz.f18 true = some k18.fn := by kernel_rfl
theorem link19 : compF Tryz.prog nm hint19 Tryz.f19 true = some k19.fn := by kernel_rfl
theorem link20 : compF Tryz.prog nm hint20 Tryz.f20 true = some k20.fn := by kernel_rfl
theorem link21 : compF Tryz.prog nm hint21 Tryz.f21 true = some k21.fn := by kernel_rfl
theorem link22 : compF Tryz.prog nm hint22 Tryz.f22 true = some k22.fn := by kernel_rfl
theorem link23 : compF Tryz.prog nm hint23 Tryz.f23 true = some k23.fn := by kernel_rfl
theorem link24 : compF Tryz.prog nm hint24 Tryz.f24 true = some k24.fn := by kernel_rfl
theorem link25 : compF Tryz.prog nm hint25 Tryz.f25 true = some k25.fn := by kernel_rfl
theorem link28 : compF Tryz.prog nm hint28 Tryz.f28 true = some k28.fn := by kernel_rfl
theorem link29 : compF Tryz.prog nm hint29 Tryz.f29 true = some k29.fn := by kernel_rfl
theorem link30 : compF Tryz.prog nm hint30 Tryz.f30 true = some k30.fn := by kernel_rfl
theorem link31 : compF Tryz.prog nm hint31 Tryz.f31 true = some k31.fn := by kernel_rfl
theorem link33 : compF Tryz.prog nm hint33 Tryz.f33 true = some k33.fn := by kernel_rfl
theorem link34 : compF Tryz.prog nm hint34 Tryz.f34 true = some k34.fn := by kernel_rfl
theorem link35 : compF Tryz.prog nm hint35 Tryz.f35 true = some k35.fn := by kernel_rfl
theorem link36 : compF Tryz.prog nm hint36 Tryz.f36 true = some k36.fn := by kernel_rfl
theorem link37 : compF Tryz.prog nm hint37 Tryz.f37 true = some k37.fn := by kernel_rfl
theorem link38 : compF Tryz.prog nm hint38 Tryz.f38 true = some k38.fn := by kernel_rfl
theorem link39 : compF Tryz.prog nm hint39 Tryz.f39 true = some k39.fn := by kernel_rfl
theorem link40 : compF Tryz.prog nm hint40 Tryz.f40 true = some k40.fn := by kernel_rfl
theorem link41 : compF Tryz.prog nm hint41 Tryz.f41 true = some k41.fn := by kernel_rfl
theorem link42 : compF Tryz.prog nm hint42 Tryz.f42 true = some k42.fn := by kernel_rfl
theorem link43 : compF Tryz.prog nm hint43 Tryz.f43 true = some k43.fn := by kernel_rfl
theorem link44 : compF Tryz.prog nm hint44 Tryz.f44 true = some k44.fn := by kernel_rfl
theorem link45 : compF Tryz.prog nm hint45 Tryz.f45 true = some k45.fn := by kernel_rfl
theorem link46 : compF Tryz.prog nm hint46 Tryz.f46 true = some k46.fn := by kernel_rfl
theorem link48 : compF Tryz.prog nm hint48 Tryz.f48 true = some k48.fn := by kernel_rfl
theorem link51 : compF Tryz.prog nm hint51 Tryz.f51 true = some k51.fn := by kernel_rfl
theorem link54 : compF Tryz.prog nm hint54 Tryz.f54 true = some k54.fn := by kernel_rfl
theorem link55 : compF Tryz.prog nm hint55 Tryz.f55 true = some k55.fn := by kernel_rfl
theorem link56 : compF Tryz.prog nm hint56 Tryz.f56 true = some k56.fn := by kernel_rfl
theorem link57 : compF Tryz.prog nm hint57 Tryz.f57 true = some k57.fn := by kernel_rfl
theorem link58 : compF Tryz.prog nm hint58 Tryz.f58 true = some k58.fn := by kernel_rfl
theorem link62 : compF Tryz.prog nm hint62 Tryz.f62 true = some k62.fn := by kernel_rfl
theorem link63 : compF Tryz.prog nm hint63 Tryz.f63 true = some k63.fn := by kernel_rfl
theorem link65 : compF Tryz.prog nm hint65 Tryz.f65 true = some k65.fn := by kernel_rfl
theorem link66 : compF Tryz.prog nm hint66 Tryz.f66 true = some k66.fn := by kernel_rfl
theorem link67 : compF Tryz.prog nm hint67 Tryz.f67 true = some k67.fn := by kernel_rfl
theorem link68 : compF Tryz.prog nm hint68 Tryz.f68 true = some k68.fn := by kernel_rfl
theorem link70 : compF Tryz.prog nm hint70 Tryz.f70 true = some k70.fn := by kernel_rfl
theorem link71 : compF Tryz.prog nm hint71 Tryz.f71 true = some k71.fn := by kernel_rfl
theorem link77 : compF Tryz.prog nm hint77 Tryz.f77 true = some k77.fn := by kernel_rfl
theorem link80 : compF Tryz.prog nm hint80 Tryz.f80 true = some k80.fn := by kernel_rfl
theorem link87 : compF Tryz.prog nm hint87 Tryz.f87 true = some k87.fn := by kernel_rfl
theorem link89 : compF Tryz.prog nm hint89 Tryz.f89 true = some k89.fn := by kernel_rfl
theorem link91 : compF Tryz.prog nm hint91 Tryz.f91 true = some k91.fn := by kernel_rfl
theorem link100 : compF Tryz.prog nm hint100 Tryz.f100 true = some k100.fn := by kernel_rfl
theorem link116 : compF Tryz.prog nm hint116 Tryz.f116 true = some k116.fn := by kernel_rfl
theorem link124 : compF Tryz.prog nm hint124 Tryz.f124 true = some k124.fn := by kernel_rfl
noncomputable def tab : Nat → Option IFunc
 | 3 => some k3.fn
 | 4 => some k4.fn
 | 5 => some k5.fn
 | 6 => some k6.fn
 | 7 => some k7.fn
 | 8 => some k8.fn
 | 9 => some k9.fn
 | 10 => some k10.fn
 | 11 => some k11.fn
 | 12 => some k12.fn
 | 13 => some k13.fn
 | 14 => some k14.fn
 | 15 => some k15.fn
 | 16 => some k16.fn
 | 17 => some k17.fn
 | 18 => some k18.fn
 | 19 => some k19.fn
 | 20 => some k20.fn
 | 21 => some k21.fn
 | 22 => some k22.fn
 | 23 => some k23.fn
 | 24 => some k24.fn
 | 25 => some k25.fn
 | 28 => some k28.fn
 | 29 => some k29.fn
 | 30 => some k30.fn
 | 31 => some k31.fn
 | 33 => some k33.fn
 | 34 => some k34.fn
 | 35 => some k35.fn
 | 36 => some k36.fn
 | 37 => some k37.fn
 | 38 => some k38.fn
 | 39 => some k39.fn
 | 40 => some k40.fn
 | 41 => some k41.fn
 | 42 => some k42.fn
 | 43 => some k43.fn
 | 44 => some k44.fn
 | 45 => some k45.fn
 | 46 => some k46.fn
 | 48 => some k48.fn
 | 51 => some k51.fn
 | 54 => some k54.fn
 | 55 => some k55.fn
 | 56 => some k56.fn
 | 57 => some k57.fn
 | 58 => some k58.fn
 | 62 => some k62.fn
 | 63 => some k63.fn
 | 65 => some k65.fn
 | 66 => some k66.fn
 | 67 => some k67.fn
 | 68 => some k68.fn
 | 70 => some k70.fn
 | 71 => some k71.fn
 | 77 => some k77.fn
 | 80 => some k80.fn
 | 87 => some k87.fn
 | 89 => some k89.fn
 | 91 => some k91.fn
 | 100 => some k100.fn
 | 116 => some k116.fn
 | 124 => some k124.fn
 | _ => none
theorem tabOk : TabOk Tryz.prog nm tab := by
 refine ⟨by kernel_rfl, ?_⟩
 intro f fn fid h hn
 simp only [nm, Option.some.injEq] at hn
 subst hn
 unfold tab at h
 split at h
 · cases h; exact ⟨Tryz.f3, hint3, true, Tryz.func3, by kernel_rfl, link3⟩
 · cases h; exact ⟨Tryz.f4, hint4, true, Tryz.func4, by kernel_rfl, link4⟩
 · cases h; exact ⟨Tryz.f5, hint5, true, Tryz.func5, by kernel_rfl, link5⟩
 · cases h; exact ⟨Tryz.f6, hint6, true, Tryz.func6, by kernel_rfl, link6⟩
 · cases h; exact ⟨Tryz.f7, hint7, true, Tryz.func7, by kernel_rfl, link7⟩
 · cases h; exact ⟨Tryz.f8, hint8, true, Tryz.func8, by kernel_rfl, link8⟩
 · cases h; exact ⟨Tryz.f9, hint9, true, Tryz.func9, by kernel_rfl, link9⟩
 · cases h; exact ⟨Tryz.f10, hint10, true, Tryz.func10, by kernel_rfl, link10⟩
 · cases h; exact ⟨Tryz.f11, hint11, true, Tryz.func11, by kernel_rfl, link11⟩
 · cases h; exact ⟨Tryz.f12, hint12, true, Tryz.func12, by kernel_rfl, link12⟩
 · cases h; exact ⟨Tryz.f13, hint13, true, Tryz.func13, by kernel_rfl, link13⟩
 · cases h; exact ⟨Tryz.f14, hint14, true, Tryz.func14, by kernel_rfl, link14⟩
 · cases h; exact ⟨Tryz.f15, hint15, true, Tryz.func15, by kernel_rfl, link15⟩
 · cases h; exact ⟨Tryz.f16, hint16, true, Tryz.func16, by kernel_rfl, link16⟩
 · cases h; exact ⟨Tryz.f17, hint17, true, Tryz.func17, by kernel_rfl, link17⟩
 · cases h; exact ⟨Tryz.f18, hint18, true, Tryz.func18, by kernel_rfl, link18⟩
 · cases h; exact ⟨Tryz.f19, hint19, true, Tryz.func19, by kernel_rfl, link19⟩
 · cases h; exact ⟨Tryz.f20, hint20, true, Tryz.func20, by kernel_rfl, link20⟩
 · cases h; exact ⟨Tryz.f21, hint21, true, Tryz.func21, by kernel_rfl, link21⟩
 · cases h; exact ⟨Tryz.f22, hint22, true, Tryz.func22, by kernel_rfl, link22⟩
 · cases h; exact ⟨Tryz.f23, hint23, true, Tryz.func23, by kernel_rfl, link23⟩
 · cases h; exact ⟨Tryz.f24, hint24, true, Tryz.func24, by kernel_rfl, link24⟩
 · cases h; exact ⟨Tryz.f25, hint25, true, Tryz.func25, by kernel_rfl, link25⟩
 · cases h; exact ⟨Tryz.f28, hint28, true, Tryz.func28, by kernel_rfl, link28⟩
 · cases h; exact ⟨Tryz.f29, hint29, true, Tryz.func29, by kernel_rfl, link29⟩
 · cases h; exact ⟨Tryz.f30, hint30, true, Tryz.func30, by kernel_rfl, link30⟩
 · cases h; exact ⟨Tryz.f31, hint31, true, Tryz.func31, by kernel_rfl, link31⟩
 · cases h; exact ⟨Tryz.f33, hint33, true, Tryz.func33, by kernel_rfl, link33⟩
 · cases h; exact ⟨Tryz.f34, hint34, true, Tryz.func34, by kernel_rfl, link34⟩
 · cases h; exact ⟨Tryz.f35, hint35, true, Tryz.func35, by kernel_rfl, link35⟩
 · cases h; exact ⟨Tryz.f36, hint36, true, Tryz.func36, by kernel_rfl, link36⟩
 · cases h; exact ⟨Tryz.f37, hint37, true, Tryz.func37, by kernel_rfl, link37⟩
 · cases h; exact ⟨Tryz.f38, hint38, true, Tryz.func38, by kernel_rfl, link38⟩
 · cases h; exact ⟨Tryz.f39, hint39, true, Tryz.func39, by kernel_rfl, link39⟩
 · cases h; exact ⟨Tryz.f40, hint40, true, Tryz.func40, by kernel_rfl, link40⟩
 · cases h; exact ⟨Tryz.f41, hint41, true, Tryz.func41, by kernel_rfl, link41⟩
 · cases h; exact ⟨Tryz.f42, hint42, true, Tryz.func42, by kernel_rfl, link42⟩
 · cases h; exact ⟨Tryz.f43, hint43, true, Tryz.func43, by kernel_rfl, link43⟩
 · cases h; exact ⟨Tryz.f44, hint44, true, Tryz.func44, by kernel_rfl, link44⟩
 · cases h; exact ⟨Tryz.f45, hint45, true, Tryz.func45, by kernel_rfl, link45⟩
 · cases h; exact ⟨Tryz.f46, hint46, true, Tryz.func46, by kernel_rfl, link46⟩
 · cases h; exact ⟨Tryz.f48, hint48, true, Tryz.func48, by kernel_rfl, link48⟩
 · cases h; exact ⟨Tryz.f51, hint51, true, Tryz.func51, by kernel_rfl, link51⟩
 · cases h; exact ⟨Tryz.f54, hint54, true, Tryz.func54, by kernel_rfl, link54⟩
 · cases h; exact ⟨Tryz.f55, hint55, true, Tryz.func55, by kernel_rfl, link55⟩
 · cases h; exact ⟨Tryz.f56, hint56, true, Tryz.func56, by kernel_rfl, link56⟩
 · cases h; exact ⟨Tryz.f57, hint57, true, Tryz.func57, by kernel_rfl, link57⟩
 · cases h; exact ⟨Tryz.f58, hint58, true, Tryz.func58, by kernel_rfl, link58⟩
 · cases h; exact ⟨Tryz.f62, hint62, true, Tryz.func62, by kernel_rfl, link62⟩
 · cases h; exact ⟨Tryz.f63, hint63, true, Tryz.func63, by kernel_rfl, link63⟩
 · cases h; exact ⟨Tryz.f65, hint65, true, Tryz.func65, by kernel_rfl, link65⟩
 · cases h; exact ⟨Tryz.f66, hint66, true, Tryz.func66, by kernel_rfl, link66⟩
 · cases h; exact ⟨Tryz.f67, hint67, true, Tryz.func67, by kernel_rfl, link67⟩
 · cases h; exact ⟨Tryz.f68, hint68, true, Tryz.func68, by kernel_rfl, link68⟩
 · cases h; exact ⟨Tryz.f70, hint70, true, Tryz.func70, by kernel_rfl, link70⟩
 · cases h; exact ⟨Tryz.f71, hint71, true, Tryz.func71, by kernel_rfl, link71⟩
 · cases h; exact ⟨Tryz.f77, hint77, true, Tryz.func77, by kernel_rfl, link77⟩
 · cases h; exact ⟨Tryz.f80, hint80, true, Tryz.func80, by kernel_rfl, link80⟩
 · cases h; exact ⟨Tryz.f87, hint87, true, Tryz.func87, by kernel_rfl, link87⟩
 · cases h; exact ⟨Tryz.f89, hint89, true, Tryz.func89, by kernel_rfl, link89⟩
 · cases h; exact ⟨Tryz.f91, hint91, true, Tryz.func91, by kernel_rfl, link91⟩
 · cases h; exact ⟨Tryz.f100, hint100, true, Tryz.func100, by kernel_rfl, link100⟩
 · cases h; exact ⟨Tryz.f116, hint116, true, Tryz.func116, by kernel_rfl, link116⟩
 · cases h; exact ⟨Tryz.f124, hint124, true, Tryz.func124, by kernel_rfl, link124⟩
 · cases h
end Go.Proofs.YtaifamiafiefkaaGreatDoor
