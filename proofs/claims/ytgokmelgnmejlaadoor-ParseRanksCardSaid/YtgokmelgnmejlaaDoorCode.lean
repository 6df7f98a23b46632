/- The functions that the law reaches as the evaluator takes them, and what they come to: printed by program. -/
import Derived.Test.YtgokmelgnmejlaaDoorChecked
import Derived.KernelRfl
import Derived.Test.YtgokmelgnmejlaaDoorAbs9
import Derived.Test.YtgokmelgnmejlaaDoorAbs3
set_option maxRecDepth 100000
set_option linter.unusedVariables false
namespace Go.Proofs.YtgokmelgnmejlaaDoor
open Go Go.Abs
def nm : FuncId → Option Nat := some
def imB (n c : Nat) : Bool := (Nat.beq n 8 && Nat.beq c 0)
def noB (n : Nat) : Bool := (lkN [(65, true), (66, true), (67, true), (68, true)] n).isSome
def resT : Nat → Option RS := lkN [
  (4, (.val (.one (.bool)) [])),
  (5, (.tup [(.agg [.im 3, .im 2, .im 4]), (.one (.int .i64)), (.one (.int .i64))] [])),
  (6, (.val (.one (.str)) [])),
  (7, (.tup [(.one (.im 3)), (.one (.int .i64)), (.one (.int .i64))] [])),
  (8, (.val (.one (.bool)) [])),
  (9, (.val (.one (.bool)) [])),
  (10, (.val (.agg [.str, .im 1, .im 3]) [])),
  (11, (.val (.agg [.str, .im 3]) [])),
  (12, (.val (.agg [.str, .im 3, .im 6, .im 10]) [])),
  (13, (.tup [] [])),
  (14, (.val (.one (.bool)) [])),
  (15, (.val (.one (.bool)) [])),
  (16, (.tup [] [])),
  (17, (.val (.one .str) [[.bld 67, .dead]])),
  (18, (.val (.one (.bool)) [])),
  (19, (.val (.one (.bool)) [])),
  (20, (.val (.one (.int .i64)) [])),
  (21, (.val (.one (.bool)) [])),
  (22, (.val (.one (.bool)) [])),
  (23, (.val (.one (.bool)) [])),
  (24, (.val (.one (.bool)) [])),
  (25, (.tup [(.one (.str)), (.one (.int .i64)), (.one (.bool))] [])),
  (26, (.val (.one (.str)) [])),
  (27, (.val (.one (.bool)) [])),
  (28, (.val (.one (.str)) [])),
  (29, (.tup [] [])),
  (30, (.val (.one (.int .i64)) [])),
  (31, (.val (.one (.im 4)) [])),
  (32, (.val (.agg [.int .i64, .str]) [])),
  (33, (.val (.one (.int .i64)) [])),
  (34, (.val (.one (.bool)) [])),
  (35, (.val (.one (.int .i64)) [])),
  (36, (.val (.one (.bool)) [])),
  (37, (.tup [(.one (.int .i64)), .ifc] [])),
  (38, (.val (.one (.str)) [])),
  (39, (.val (.one (.str)) [])),
  (40, (.val (.one (.str)) [])),
  (41, (.val (.one (.bool)) [])),
  (42, (.tup [(.one (.int .i64)), .ifc] [])),
  (43, (.val (.one (.int .u8)) [])),
  (44, (.val (.one (.bool)) [])),
  (45, (.val (.one (.int .u8)) [])),
  (46, (.val (.one (.bool)) [])),
  (47, (.tup [(.one (.int .i64)), .ifc] [])),
  (48, (.tup [] [])),
  (49, (.val (.one (.bool)) [])),
  (50, (.tup [] [])),
  (51, (.val (.one (.str)) [])),
  (52, (.val (.one (.str)) [])),
  (53, (.val (.one (.str)) [])),
  (57, (.val (.one (.bool)) [])),
  (58, (.tup [] [])),
  (59, (.val (.one (.bool)) [])),
  (60, (.val (.one (.bool)) [])),
  (63, (.val (.one (.str)) [])),
  (69, (.val (.one (.int .i64)) [])),
  (70, (.val (.one (.im 1)) [])),
  (71, (.val (.one (.im 3)) [])),
  (72, (.val (.agg [.str, .str, .int .i64]) [])),
  (82, (.val (.one (.int .i64)) [])),
  (83, (.val (.one (.int .i64)) [])),
  (90, (.val (.agg [.int .i64, .str, .int .i64, .str, .int .i64, .int .i64]) [])),
  (91, (.val (.one (.int .i64)) [])),
  (92, (.val (.one (.int .i64)) [])),
  (95, (.val (.one (.int .i64)) [])),
  (96, (.val (.one (.int .i64)) [])),
  (97, (.val (.one (.int .i64)) [])),
  (98, (.val (.one (.int .i64)) []))]
def hint3 : Hint := ⟨83, 12, [], [], [(0, (some [0]), false), (1, (some [0]), false), (2, (some []), false), (3, (some [0]), false), (4, (some [3, 0]), false), (5, (some [4, 3, 0]), false), (6, (some [5, 4, 3]), false), (7, (some [5, 4, 6, 8]), false), (8, (some []), false), (9, (some [5, 4, 6]), false), (10, (some [10, 11, 5, 4, 6]), false)]⟩
noncomputable def k3 : KFunc := kOf 8 (compF Tryd.prog nm hint3 Tryd.f3 true)
def an3 : Ann := ⟨lkN [(27, [.str]), (6, [.im 3, .im 2, .im 4]), (38, [.im 4]), (44, [.im 4]), (47, [.im 10]), (9, [.im 3, .im 2, .im 4]), (57, [.im 4]), (60, [.im 6]), (62, [.im 4]), (65, [.im 10]), (68, [.int .i64]), (73, [.str])], resT, imB, noB⟩
def hint4 : Hint := ⟨65, 7, [], [], [(0, (some []), false), (1, (some []), false), (2, (some [1, 2, 3]), false), (3, (some [5, 6, 1, 2, 3]), false)]⟩
noncomputable def k4 : KFunc := kOf 8 (compF Tryd.prog nm hint4 Tryd.f4 true)
def an4 : Ann := ⟨lkN [(1, [.im 3, .im 2, .im 4]), (4, [.im 3, .im 2, .im 4]), (25, [.im 4]), (31, [.im 4]), (34, [.str]), (39, [.im 4]), (42, [.im 10]), (48, [.im 4]), (51, [.im 10]), (54, [.int .i64])], resT, imB, noB⟩
def hint5 : Hint := ⟨81, 10, [2], [], [(0, (some [0]), false), (1, (some [2, 0]), false), (2, (some [2, 6, 0, 5, 7]), false), (3, (some [2, 6]), false), (4, (some [2, 0, 5]), false), (5, (some [8, 2]), false), (6, (some [9, 8, 2]), true), (8, (some [9, 8, 2]), false), (9, (some [9, 8, 2]), false), (10, (some [9, 8, 2]), false), (11, (some [9, 8, 2]), false), (12, (some [9, 8, 2]), false), (13, (some [9, 8, 2]), false), (7, (some [9, 8, 2]), false), (14, (some [2, 8, 9]), false), (15, (some [2, 8]), false), (16, (some [2, 9]), false)]⟩
noncomputable def k5 : KFunc := kOf 8 (compF Tryd.prog nm hint5 Tryd.f5 true)
noncomputable def k5_c0 : KCode := k5.body.at_ [1, 1, 1, 1, 1, 1]
noncomputable def k5_b0 : KCode := k5.body.at_ [1, 1, 1, 1, 1, 0, 0, 0]
def an5 : Ann := ⟨lkN [(2, [.im 3, .im 2, .im 4]), (40, [.im 3]), (45, [.im 3]), (52, [.im 2]), (57, [.im 2]), (64, [.im 4]), (69, [.im 4]), (79, [.int .i64]), (2, [.im 3, .im 2, .im 4]), (80, [.im 3, .im 2, .im 4]), (2, [.im 3, .im 2, .im 4])], resT, imB, noB⟩
noncomputable def h5_0 (Cl : Oracle) (n : Nat) (bx : List (List C)) (m0 : Nat) (S : Go.Abs.St) : Option (V × List (List C)) := iterK 0 (evCA an5 Cl n k5_b0) (some [9, 8, 2]) true m0 S (blockK 0 (seqK (evCA an5 Cl n k5_c0) (retK [.cell 2 3 true, .slot 3, .slot 4] true bx)))
def hint6 : Hint := ⟨18, 6, [], [], [(0, (some [1, 0]), false), (1, (some [1, 0]), false), (2, (some []), false), (3, (some [1, 0]), false), (4, (some [5, 1, 0]), false), (5, (some [5]), false)]⟩
noncomputable def k6 : KFunc := kOf 8 (compF Tryd.prog nm hint6 Tryd.f6 true)
def an6 : Ann := ⟨lkN [], resT, imB, noB⟩
def hint7 : Hint := ⟨146, 15, [], [], [(0, (some [0]), false), (1, (some [0]), false), (2, (some []), false), (3, (some [0]), false), (4, (some [0, 5]), false), (5, (some [0, 5, 6]), true), (6, (some [0, 5, 6]), false), (7, (some [0, 5, 6, 7]), false), (8, (some [0, 5, 6, 8, 7]), false), (9, (some [0, 5, 6, 8, 7, 9]), false), (15, (some [0, 5, 6, 8, 7, 9]), false), (16, (some [0, 5, 6]), false), (17, (some [0, 5, 6, 8, 7, 9]), false), (18, (some [0, 5, 6]), false), (19, (some [0, 8, 5, 6, 7, 9]), false), (20, (some [0, 8, 5, 6]), false), (21, (some [0, 8, 5, 6]), false), (22, (some [6, 0, 8, 5, 7, 9]), false), (23, (some [6, 0, 8, 5]), false), (24, (some [6, 0, 8, 5]), false), (25, (some [6, 0, 10, 8, 5]), false), (26, (some [6]), false), (27, (some [6, 0, 8, 5, 7]), false), (28, (some [6, 0, 8, 5]), false), (29, (some [6, 0, 12, 8, 5, 11, 13]), false), (30, (some [6]), false), (31, (some [0, 12, 8, 5, 11]), false), (32, (some [0, 12, 8, 5, 11]), false), (33, (some [0, 12, 8, 5]), false), (34, (some [0, 5, 12]), false), (10, (some [6, 0, 8, 5]), false), (11, (some [6, 0, 8, 5, 14]), false), (12, (some [6]), false), (13, (some [0, 8, 5, 6, 14]), false), (14, (some [0, 8, 5, 6, 14]), false), (35, (some [0, 10, 8, 5, 6]), false), (36, (some [0, 10, 8, 5]), false), (37, (some [0, 5, 10]), false), (38, (some [5]), false)]⟩
noncomputable def k7 : KFunc := kOf 8 (compF Tryd.prog nm hint7 Tryd.f7 true)
noncomputable def k7_c0 : KCode := k7.body.at_ [1, 1, 1, 1, 1]
noncomputable def k7_b1 : KCode := k7.body.at_ [1, 1, 1, 1, 0, 0, 0, 1, 0, 1, 1, 1, 1, 1]
noncomputable def k7_b0 : KCode := k7.body.at_ [1, 1, 1, 1, 0, 0, 0]
def an7 : Ann := ⟨lkN [(8, [.int .i64, .str, .int .i64]), (53, [.int .i64, .str, .int .i64]), (92, [.int .i64]), (102, [.int .i64]), (127, [.int .i64]), (129, [.str]), (131, [.int .i64, .str, .int .i64]), (65, [.int .i64]), (139, [.str]), (141, [.int .i64, .str, .int .i64])], resT, imB, noB⟩
noncomputable def h7_0 (Cl : Oracle) (n : Nat) (bx : List (List C)) (m0 : Nat) (S : Go.Abs.St) : Option (V × List (List C)) := iterK 0 (evCA an7 Cl n k7_b0) (some [0, 5, 6]) true m0 S (blockK 0 (seqK (evCA an7 Cl n k7_c0) (retK [.slot 2, .slot 3, .slot 4] true bx)))
noncomputable def h7_1 (Cl : Oracle) (n : Nat) (bx : List (List C)) (m0 : Nat) (m1 : Nat) (S : Go.Abs.St) : Option (V × List (List C)) := jumpK 1 (evCA an7 Cl n k7_b1) m1 S (blockK 1 (nextK (some [0, 5, 6]) true (h7_0 Cl n bx m0) (blockK 0 (seqK (evCA an7 Cl n k7_c0) (retK [.slot 2, .slot 3, .slot 4] true bx)))))
def hint8 : Hint := ⟨18, 3, [], [], [(0, (some [0]), false), (1, (some [0]), false)]⟩
noncomputable def k8 : KFunc := kOf 8 (compF Tryd.prog nm hint8 Tryd.f8 true)
def an8 : Ann := ⟨lkN [(10, [.int .i64]), (14, [.im 3])], resT, imB, noB⟩
def hint9 : Hint := ⟨16, 5, [], [], [(0, (some [0, 1]), false), (1, (some [0, 1]), false), (2, (some []), false), (3, (some [0]), false), (4, (some []), false)]⟩
noncomputable def k9 : KFunc := kOf 8 (compF Tryd.prog nm hint9 Tryd.f9 true)
def an9 : Ann := ⟨lkN [(12, [.int .i64]), (15, [.int .i64])], resT, imB, noB⟩
def hint10 : Hint := ⟨96, 5, [2], [], [(0, (some [0]), false), (1, (some [0, 2]), false), (2, (some [3, 0, 2]), false), (3, (some [3, 0, 2]), false), (4, (some [3, 0, 2]), true), (5, (some [3, 0, 2]), false), (6, (some [3, 0, 2]), false), (7, (some [3, 0, 2]), true), (8, (some [3, 0, 2]), false), (9, (some [3, 0, 2]), false), (10, (some [3, 0, 2]), false), (11, (some [3, 0, 2, 4]), false), (12, (some [3, 0, 2, 4]), false), (13, (some [3, 0, 2, 4]), false), (14, (some [3, 0, 2, 4]), false), (15, (some [3, 0, 2, 4]), false), (16, (some [3, 0, 2, 4]), false), (17, (some [2, 3, 0]), false), (18, (some [2, 3]), false)]⟩
noncomputable def k10 : KFunc := kOf 8 (compF Tryd.prog nm hint10 Tryd.f10 true)
noncomputable def k10_c0 : KCode := k10.body.at_ [1, 1, 1, 1, 1, 1, 1]
noncomputable def k10_b1 : KCode := k10.body.at_ [1, 1, 1, 1, 1, 1, 0, 0, 0, 1, 0, 1, 1, 1, 1]
noncomputable def k10_b0 : KCode := k10.body.at_ [1, 1, 1, 1, 1, 1, 0, 0, 0]
noncomputable def k10_c1 : KCode := k10.body.at_ [1, 1, 1, 1, 1]
noncomputable def k10_b2 : KCode := k10.body.at_ [1, 1, 1, 1, 0, 0, 0]
def an10 : Ann := ⟨lkN [(3, [.str, .im 1, .im 3]), (15, [.im 1]), (22, [.im 1]), (28, [.im 1]), (35, [.im 1]), (56, [.im 3]), (72, [.str]), (81, [.str]), (84, [.im 4]), (86, [.im 3]), (87, [.str, .str, .im 4]), (90, [.im 3]), (95, [.str, .im 1, .im 3]), (2, [.str, .im 1, .im 3])], resT, imB, noB⟩
noncomputable def h10_0 (Cl : Oracle) (n : Nat) (bx : List (List C)) (m0 : Nat) (S : Go.Abs.St) : Option (V × List (List C)) := iterK 0 (evCA an10 Cl n k10_b0) (some [3, 0, 2]) true m0 S (blockK 2 (seqK (evCA an10 Cl n k10_c0) (retK [.cell 2 3 true] true bx)))
noncomputable def h10_1 (Cl : Oracle) (n : Nat) (bx : List (List C)) (m0 : Nat) (m1 : Nat) (S : Go.Abs.St) : Option (V × List (List C)) := jumpK 1 (evCA an10 Cl n k10_b1) m1 S (blockK 3 (nextK (some [3, 0, 2]) true (h10_0 Cl n bx m0) (blockK 2 (seqK (evCA an10 Cl n k10_c0) (retK [.cell 2 3 true] true bx)))))
noncomputable def h10_2 (Cl : Oracle) (n : Nat) (bx : List (List C)) (m2 : Nat) (S : Go.Abs.St) : Option (V × List (List C)) := iterK 2 (evCA an10 Cl n k10_b2) (some [3, 0, 2]) true m2 S (blockK 0 (seqK (evCA an10 Cl n k10_c1) (retK [.cell 2 3 true] true bx)))
def hint11 : Hint := ⟨76, 5, [2], [], [(0, (some [0]), false), (1, (some [0, 2]), false), (2, (some [3, 0, 2]), false), (3, (some [3, 0, 2]), true), (4, (some [3, 0, 2]), false), (5, (some [3, 0, 2]), false), (6, (some [3, 0, 2]), false), (9, (some [3, 0, 2, 4]), false), (10, (some [3, 0, 2, 4]), false), (11, (some [3, 0, 2, 4]), false), (7, (some [3, 0, 2, 4]), false), (8, (some [3, 0, 2, 4]), false), (12, (some [3, 0, 2, 4]), false), (13, (some [2, 3, 0]), false), (14, (some [2, 3]), false)]⟩
noncomputable def k11 : KFunc := kOf 8 (compF Tryd.prog nm hint11 Tryd.f11 true)
noncomputable def k11_c0 : KCode := k11.body.at_ [1, 1, 1, 1]
noncomputable def k11_b1 : KCode := k11.body.at_ [1, 1, 1, 0, 0, 0, 1, 0, 1, 1, 1, 1]
noncomputable def k11_b0 : KCode := k11.body.at_ [1, 1, 1, 0, 0, 0]
def an11 : Ann := ⟨lkN [(3, [.str, .im 3]), (30, [.im 3]), (4, [.int .i64, .str, .im 4]), (4, [.int .i64, .str, .im 4]), (66, [.im 3]), (67, [.int .i64, .str, .im 4]), (70, [.im 3]), (75, [.str, .im 3]), (2, [.str, .im 3])], resT, imB, noB⟩
noncomputable def h11_0 (Cl : Oracle) (n : Nat) (bx : List (List C)) (m0 : Nat) (S : Go.Abs.St) : Option (V × List (List C)) := iterK 0 (evCA an11 Cl n k11_b0) (some [3, 0, 2]) true m0 S (blockK 0 (seqK (evCA an11 Cl n k11_c0) (retK [.cell 2 2 true] true bx)))
noncomputable def h11_1 (Cl : Oracle) (n : Nat) (bx : List (List C)) (m0 : Nat) (m1 : Nat) (S : Go.Abs.St) : Option (V × List (List C)) := jumpK 1 (evCA an11 Cl n k11_b1) m1 S (blockK 1 (nextK (some [3, 0, 2]) true (h11_0 Cl n bx m0) (blockK 0 (seqK (evCA an11 Cl n k11_c0) (retK [.cell 2 2 true] true bx)))))
def hint12 : Hint := ⟨75, 4, [2], [], [(0, (some [0]), false), (1, (some [2, 0]), false), (2, (some [2, 0]), false), (3, (some [2, 0]), true), (4, (some [2, 0]), false), (5, (some [2, 0, 3]), false), (6, (some [2, 0, 3]), false), (7, (some [2, 0, 3]), false), (8, (some [2, 0]), false), (9, (some [2, 0]), false), (10, (some [2, 0]), false), (11, (some [2, 0]), false), (12, (some [2, 0]), false), (13, (some [2, 0]), false)]⟩
noncomputable def k12 : KFunc := kOf 8 (compF Tryd.prog nm hint12 Tryd.f12 true)
noncomputable def k12_b2 : KCode := k12.body.at_ [1, 1, 1, 1]
noncomputable def k12_b1 : KCode := k12.body.at_ [1, 1, 1, 0, 0, 0, 1, 0, 1, 1, 1, 1]
noncomputable def k12_b0 : KCode := k12.body.at_ [1, 1, 1, 0, 0, 0]
def an12 : Ann := ⟨lkN [(11, [.str, .im 3, .im 6, .im 10]), (3, [.str, .int .i64, .str]), (39, [.int .i64, .str]), (45, [.im 3]), (46, [.str, .int .i64, .str]), (51, [.im 3]), (74, [.str, .im 3, .im 6, .im 10]), (2, [.str, .im 3, .im 6, .im 10])], resT, imB, noB⟩
noncomputable def h12_2 (Cl : Oracle) (n : Nat) (bx : List (List C)) (m2 : Nat) (S : Go.Abs.St) : Option (V × List (List C)) := jumpK 2 (evCA an12 Cl n k12_b2) m2 S (retK [.cell 2 4 true] true bx)
noncomputable def h12_0 (Cl : Oracle) (n : Nat) (bx : List (List C)) (m0 : Nat) (S : Go.Abs.St) : Option (V × List (List C)) := iterK 0 (evCA an12 Cl n k12_b0) (some [2, 0]) true m0 S (blockK 0 (seqK (joinK 2 (some [2, 0]) false n (evCA an12 Cl n k12_b2)) (retK [.cell 2 4 true] true bx)))
noncomputable def h12_1 (Cl : Oracle) (n : Nat) (bx : List (List C)) (m0 : Nat) (m1 : Nat) (S : Go.Abs.St) : Option (V × List (List C)) := jumpK 1 (evCA an12 Cl n k12_b1) m1 S (blockK 1 (nextK (some [2, 0]) true (h12_0 Cl n bx m0) (blockK 0 (seqK (joinK 2 (some [2, 0]) false n (evCA an12 Cl n k12_b2)) (retK [.cell 2 4 true] true bx)))))
def hint13 : Hint := ⟨35, 2, [], [], [(0, (some [0]), false), (1, (some [0]), false), (2, (some [0]), false), (3, (some [0]), false)]⟩
noncomputable def k13 : KFunc := kOf 8 (compF Tryd.prog nm hint13 Tryd.f13 true)
def an13 : Ann := ⟨lkN [(8, [.int .i64]), (10, [.int .i64]), (14, [.int .i64]), (18, [.im 3]), (25, [.im 3]), (29, [.int .i64]), (32, [.int .i64]), (34, [.int .i64])], resT, imB, noB⟩
def hint14 : Hint := ⟨8, 3, [], [], [(0, (some [0]), false), (1, (some [0]), false)]⟩
noncomputable def k14 : KFunc := kOf 8 (compF Tryd.prog nm hint14 Tryd.f14 true)
def an14 : Ann := ⟨lkN [(6, [.int .i64])], resT, imB, noB⟩
def hint15 : Hint := ⟨27, 7, [], [], [(0, (some [1, 0]), false), (1, (some [1, 2]), false), (2, (some []), false), (3, (some [1, 2]), false), (4, (some [1, 2, 5]), false), (5, (some [1, 6, 2, 5]), false), (6, (some [1, 6]), false)]⟩
noncomputable def k15 : KFunc := kOf 8 (compF Tryd.prog nm hint15 Tryd.f15 true)
def an15 : Ann := ⟨lkN [(7, [.im 6]), (16, [.im 6]), (20, [.im 6]), (5, [.im 1])], resT, imB, noB⟩
def hint16 : Hint := ⟨81, 7, [], [], [(0, (some [0, 1, 2]), false), (7, (some [6, 0, 1]), false), (8, (some [6, 0]), false), (9, (some [0, 6, 1]), false), (10, (some [0, 6, 1]), false), (11, (some [0, 6, 1]), false), (12, (some [0]), false), (13, (some [0, 6, 1]), false), (14, (some [0, 6, 1]), false), (15, (some [0, 6, 1]), false), (16, (some [0, 6, 1]), false), (17, (some [0, 6, 1]), false), (18, (some [0]), false), (1, (some [0, 6, 1]), false), (2, (some [0, 6, 1]), false), (3, (some [0, 6, 1]), false), (4, (some [0, 6, 1]), false), (5, (some [0, 6, 1]), false), (6, (some [0]), false)]⟩
noncomputable def k16 : KFunc := kOf 8 (compF Tryd.prog nm hint16 Tryd.f16 true)
def an16 : Ann := ⟨lkN [(10, [.int .i64, .str, .int .i64, .str, .int .i64, .int .i64]), (6, [.int .i64, .str, .int .i64, .str, .int .i64, .int .i64]), (36, [.int .i64]), (39, [.int .i64, .str, .int .i64, .str, .int .i64, .int .i64]), (44, [.int .i64]), (51, [.int .i64]), (57, [.int .i64]), (65, [.int .i64]), (69, [.int .i64]), (77, [.int .i64]), (13, [.int .i64]), (20, [.int .i64]), (23, [.int .i64]), (30, [.int .i64])], resT, imB, noB⟩
def hint17 : Hint := ⟨14, 3, [], [], [(0, (some [0]), false), (1, (some [0]), false)]⟩
noncomputable def k17 : KFunc := kOf 8 (compF Tryd.prog nm hint17 Tryd.f17 true)
def an17 : Ann := ⟨lkN [(6, [.im 1]), (11, [.im 1])], resT, imB, noB⟩
def hint18 : Hint := ⟨9, 3, [], [], [(0, (some [0]), false), (1, (some [0]), false)]⟩
noncomputable def k18 : KFunc := kOf 8 (compF Tryd.prog nm hint18 Tryd.f18 true)
def an18 : Ann := ⟨lkN [], resT, imB, noB⟩
def hint19 : Hint := ⟨17, 3, [], [], [(0, (some [0]), false), (1, (some [1]), false), (2, (some [1, 4]), false), (3, (some [1]), false), (4, (some [1, 4]), false), (5, (some [1, 4]), false), (6, (some []), false), (7, (some [1]), false)]⟩
noncomputable def k19 : KFunc := kOf 8 (compF Tryd.prog nm hint19 Tryd.f19 true)
def an19 : Ann := ⟨lkN [(4, [.int .i64]), (8, [.str]), (15, [.str])], resT, imB, noB⟩
def hint20 : Hint := ⟨21, 7, [], [], [(0, (some [1, 0, 2]), false), (1, (some [0, 2, 1]), true), (2, (some [0, 2, 1]), false), (3, (some [1]), false)]⟩
noncomputable def k20 : KFunc := kOf 8 (compF Tryd.prog nm hint20 Tryd.f20 true)
noncomputable def k20_c0 : KCode := k20.body.at_ [1, 1]
noncomputable def k20_b0 : KCode := k20.body.at_ [1, 0, 0, 0]
def an20 : Ann := ⟨lkN [], resT, imB, noB⟩
noncomputable def h20_0 (Cl : Oracle) (n : Nat) (bx : List (List C)) (m0 : Nat) (S : Go.Abs.St) : Option (V × List (List C)) := iterK 0 (evCA an20 Cl n k20_b0) (some [0, 2, 1]) true m0 S (blockK 0 (seqK (evCA an20 Cl n k20_c0) (retK [.slot 6] true bx)))
def hint21 : Hint := ⟨5, 3, [], [], [(0, (some [0]), false), (1, (some [0]), false)]⟩
noncomputable def k21 : KFunc := kOf 8 (compF Tryd.prog nm hint21 Tryd.f21 true)
def an21 : Ann := ⟨lkN [], resT, imB, noB⟩
def hint22 : Hint := ⟨9, 3, [], [], [(0, (some [0]), false), (1, (some [0]), false)]⟩
noncomputable def k22 : KFunc := kOf 8 (compF Tryd.prog nm hint22 Tryd.f22 true)
def an22 : Ann := ⟨lkN [], resT, imB, noB⟩
def hint23 : Hint := ⟨9, 3, [], [], [(0, (some [0]), false), (1, (some [0]), false)]⟩
noncomputable def k23 : KFunc := kOf 8 (compF Tryd.prog nm hint23 Tryd.f23 true)
def an23 : Ann := ⟨lkN [], resT, imB, noB⟩
def hint24 : Hint := ⟨46, 6, [], [], [(0, (some [0]), false), (1, (some [0]), false), (2, (some [0, 3]), false), (3, (some [0, 3]), false), (4, (some [0, 3]), false), (5, (some []), false), (6, (some [0]), false), (7, (some [5]), false)]⟩
noncomputable def k24 : KFunc := kOf 8 (compF Tryd.prog nm hint24 Tryd.f24 true)
noncomputable def k24_b0 : KCode := k24.body.at_ [1, 1, 1]
def an24 : Ann := ⟨lkN [], resT, imB, noB⟩
noncomputable def h24_0 (Cl : Oracle) (n : Nat) (bx : List (List C)) (m0 : Nat) (S : Go.Abs.St) : Option (V × List (List C)) := jumpK 0 (evCA an24 Cl n k24_b0) m0 S (retK [.slot 2] true bx)
def hint25 : Hint := ⟨95, 10, [], [], [(0, (some [1, 0]), false), (1, (some [2, 1]), false), (2, (some [7, 2, 1]), false), (3, (some [7, 2, 8, 1]), false), (4, (some [1, 7, 2, 8]), true), (6, (some [1, 7, 2, 8]), false), (8, (some [1, 7, 2, 8, 9]), false), (9, (some [1, 7]), false), (10, (some [2, 8, 7, 1, 9]), false), (11, (some [2, 8, 7, 1]), false), (12, (some [2, 8, 1, 7]), false), (14, (some [2, 8, 1, 7, 40]), false), (15, (some [2, 8, 1, 7, 40]), false), (16, (some [2, 8, 1, 7]), false), (17, (some [2, 8, 1, 7, 40]), false), (18, (some [2, 8, 1, 7]), false), (19, (some [2, 8, 1, 7, 40]), false), (20, (some [2, 8, 1, 7]), false), (21, (some []), false), (22, (some [2, 8, 1, 7]), false), (23, (some [7, 2, 8, 1]), false), (13, (some []), false), (24, (some [2, 8, 1, 9, 7]), false), (25, (some []), false), (7, (some [2, 8, 1, 9, 7]), false), (5, (some [7, 2, 8, 1]), false), (26, (some []), false)]⟩
noncomputable def k25 : KFunc := kOf 8 (compF Tryd.prog nm hint25 Tryd.f25 true)
noncomputable def k25_c0 : KCode := k25.body.at_ [1, 1, 1, 1]
noncomputable def k25_b1 : KCode := k25.body.at_ [1, 1, 1, 0, 1, 0, 0, 1, 1]
noncomputable def k25_b0 : KCode := k25.body.at_ [1, 1, 1, 0, 1, 0, 0]
def an25 : Ann := ⟨lkN [(14, [.str]), (19, [.str]), (45, [.str]), (72, [.str]), (78, [.str])], resT, imB, noB⟩
noncomputable def h25_0 (Cl : Oracle) (n : Nat) (bx : List (List C)) (m0 : Nat) (S : Go.Abs.St) : Option (V × List (List C)) := iterK 0 (evCA an25 Cl n k25_b0) (some [1, 7, 2, 8]) true m0 S (blockK 0 (seqK (evCA an25 Cl n k25_c0) (retK [.slot 4, .slot 5, .slot 6] true bx)))
noncomputable def h25_1 (Cl : Oracle) (n : Nat) (bx : List (List C)) (m0 : Nat) (m1 : Nat) (S : Go.Abs.St) : Option (V × List (List C)) := jumpK 1 (evCA an25 Cl n k25_b1) m1 S (nextK (some [1, 7, 2, 8]) true (h25_0 Cl n bx m0) (blockK 0 (seqK (evCA an25 Cl n k25_c0) (retK [.slot 4, .slot 5, .slot 6] true bx))))
def hint26 : Hint := ⟨44, 6, [], [], [(0, (some [1, 0]), false), (1, (some [1, 0]), false), (2, (some [1, 0]), false), (3, (some [5, 1, 0]), false), (4, (some [5, 1, 0, 16]), false), (5, (some [5, 1, 0, 16]), false), (6, (some [5]), false), (7, (some [1, 0]), false), (8, (some [1, 0, 23]), false), (9, (some [1, 0, 23]), false), (10, (some [1, 0, 23]), false), (11, (some [1, 0, 23]), false), (12, (some [1, 0, 23]), false), (13, (some [1, 0, 23]), false), (14, (some [1, 0, 23]), false), (15, (some [1, 0, 23]), false), (16, (some [1, 0, 23]), false), (17, (some [1, 0, 23]), false), (18, (some [1, 0, 23]), false), (19, (some [1, 0, 23]), false), (20, (some [1, 0, 23]), false), (21, (some [1, 0, 23]), false), (22, (some [1, 0]), false), (23, (some []), false)]⟩
noncomputable def k26 : KFunc := kOf 8 (compF Tryd.prog nm hint26 Tryd.f26 true)
noncomputable def k26_b0 : KCode := k26.body.at_ [1, 1, 1]
noncomputable def k26_b1 : KCode := k26.body.at_ [1, 1]
def an26 : Ann := ⟨lkN [], resT, imB, noB⟩
noncomputable def h26_0 (Cl : Oracle) (n : Nat) (bx : List (List C)) (m0 : Nat) (S : Go.Abs.St) : Option (V × List (List C)) := jumpK 0 (evCA an26 Cl n k26_b0) m0 S (retK [.slot 4] true bx)
noncomputable def h26_1 (Cl : Oracle) (n : Nat) (bx : List (List C)) (m1 : Nat) (S : Go.Abs.St) : Option (V × List (List C)) := jumpK 1 (evCA an26 Cl n k26_b1) m1 S (retK [.slot 4] true bx)
def hint27 : Hint := ⟨50, 5, [], [], [(0, (some [0, 1]), false), (1, (some [0, 1]), false)]⟩
noncomputable def k27 : KFunc := kOf 8 (compF Tryd.prog nm hint27 Tryd.f27 true)
def an27 : Ann := ⟨lkN [(11, [.im 3]), (15, [.int .i64]), (18, [.str]), (26, [.im 3]), (30, [.int .i64]), (33, [.int .i64]), (39, [.im 3]), (43, [.int .i64]), (46, [.int .i64])], resT, imB, noB⟩
def hint28 : Hint := ⟨27, 3, [], [], [(0, (some [0]), false), (1, (some [0]), false), (2, (some [0]), false), (3, (some []), false), (4, (some [0]), false), (5, (some [0]), false)]⟩
noncomputable def k28 : KFunc := kOf 8 (compF Tryd.prog nm hint28 Tryd.f28 true)
def an28 : Ann := ⟨lkN [(11, [.int .i64]), (14, [.int .i64]), (18, [.im 3]), (22, [.int .i64]), (26, [.str])], resT, imB, noB⟩
def hint29 : Hint := ⟨10, 4, [], [], [(0, (some [0, 1]), false), (1, (some [0]), false)]⟩
noncomputable def k29 : KFunc := kOf 8 (compF Tryd.prog nm hint29 Tryd.f29 true)
def an29 : Ann := ⟨lkN [], resT, imB, noB⟩
def hint30 : Hint := ⟨67, 7, [], [], [(0, (some [0, 1]), false), (1, (some [0, 1]), false), (2, (some [0, 1]), false), (3, (some [5, 0, 1, 6]), false), (4, (some [5, 0]), false), (5, (some [5]), false), (6, (some [0]), false), (7, (some []), false)]⟩
noncomputable def k30 : KFunc := kOf 8 (compF Tryd.prog nm hint30 Tryd.f30 true)
noncomputable def k30_b0 : KCode := k30.body.at_ [1, 1]
def an30 : Ann := ⟨lkN [(13, [.im 3]), (17, [.int .i64]), (20, [.int .i64]), (27, [.im 3]), (31, [.int .i64]), (34, [.str]), (60, [.int .i64]), (63, [.int .i64])], resT, imB, noB⟩
noncomputable def h30_0 (Cl : Oracle) (n : Nat) (bx : List (List C)) (m0 : Nat) (S : Go.Abs.St) : Option (V × List (List C)) := jumpK 0 (evCA an30 Cl n k30_b0) m0 S (retK [.slot 4] true bx)
def hint31 : Hint := ⟨49, 5, [], [], [(0, (some [0]), false), (1, (some [0]), false), (2, (some [0, 3]), false), (3, (some [0, 3]), true), (4, (some [0, 3]), false), (5, (some [0, 4, 3]), false), (6, (some [0, 4, 3]), false), (7, (some [0, 4, 3]), false), (8, (some [0, 4, 3]), false), (9, (some [0, 4, 3]), false), (10, (some [3, 0]), false), (11, (some [3, 0]), false), (12, (some [3]), false)]⟩
noncomputable def k31 : KFunc := kOf 8 (compF Tryd.prog nm hint31 Tryd.f31 true)
noncomputable def k31_b2 : KCode := k31.body.at_ [1, 1, 1, 1]
noncomputable def k31_b1 : KCode := k31.body.at_ [1, 1, 1, 0, 0, 0, 1, 0, 1, 1, 1, 1, 1, 1]
noncomputable def k31_b0 : KCode := k31.body.at_ [1, 1, 1, 0, 0, 0]
def an31 : Ann := ⟨lkN [(4, [.str, .int .i64, .str, .int .i64]), (25, [.int .i64, .str]), (34, [.int .i64]), (36, [.str, .int .i64, .str, .int .i64])], resT, imB, noB⟩
noncomputable def h31_2 (Cl : Oracle) (n : Nat) (bx : List (List C)) (m2 : Nat) (S : Go.Abs.St) : Option (V × List (List C)) := jumpK 2 (evCA an31 Cl n k31_b2) m2 S (retK [.slot 2] true bx)
noncomputable def h31_0 (Cl : Oracle) (n : Nat) (bx : List (List C)) (m0 : Nat) (S : Go.Abs.St) : Option (V × List (List C)) := iterK 0 (evCA an31 Cl n k31_b0) (some [0, 3]) true m0 S (blockK 0 (seqK (joinK 2 (some [3, 0]) false n (evCA an31 Cl n k31_b2)) (retK [.slot 2] true bx)))
noncomputable def h31_1 (Cl : Oracle) (n : Nat) (bx : List (List C)) (m0 : Nat) (m1 : Nat) (S : Go.Abs.St) : Option (V × List (List C)) := jumpK 1 (evCA an31 Cl n k31_b1) m1 S (blockK 1 (nextK (some [0, 3]) true (h31_0 Cl n bx m0) (blockK 0 (seqK (joinK 2 (some [3, 0]) false n (evCA an31 Cl n k31_b2)) (retK [.slot 2] true bx)))))
def hint32 : Hint := ⟨57, 4, [2], [], [(0, (some [0]), false), (1, (some [2, 0]), false), (2, (some [2]), false), (3, (some [2, 0]), false), (4, (some [2]), false), (5, (some [2, 0]), false), (6, (some [2]), false), (7, (some [2, 0]), false), (8, (some [2]), false), (9, (some [2, 0]), false), (10, (some [2]), false), (11, (some [2, 0]), false), (12, (some [2, 0]), false), (13, (some [2, 3, 0]), false), (14, (some [2, 3, 0]), false), (15, (some [2, 3]), false)]⟩
noncomputable def k32 : KFunc := kOf 8 (compF Tryd.prog nm hint32 Tryd.f32 true)
def an32 : Ann := ⟨lkN [(2, [.int .i64, .str]), (2, [.int .i64, .str]), (2, [.int .i64, .str]), (2, [.int .i64, .str]), (2, [.int .i64, .str]), (3, [.int .i64, .str]), (48, [.str]), (55, [.str]), (56, [.int .i64, .str]), (2, [.int .i64, .str])], resT, imB, noB⟩
def hint33 : Hint := ⟨21, 4, [], [], [(0, (some [0]), false), (1, (some [0]), false), (2, (some [0]), false), (3, (some [3, 0]), false), (4, (some [3, 0]), false), (5, (some [3]), false)]⟩
noncomputable def k33 : KFunc := kOf 8 (compF Tryd.prog nm hint33 Tryd.f33 true)
def an33 : Ann := ⟨lkN [(12, [.im 10])], resT, imB, noB⟩
def hint34 : Hint := ⟨71, 9, [], [], [(0, (some [1, 4, 0, 3, 2]), false), (1, (some [1, 4, 0, 3, 2]), false), (2, (some [1, 4, 0, 8, 3]), false), (3, (some [1, 4, 0, 9, 8, 3]), false), (4, (some []), false), (5, (some [1, 4, 0, 9, 8, 3]), false), (6, (some [1, 4, 0, 9, 8]), false), (7, (some [1, 4, 0, 9, 43, 44, 45]), true), (8, (some [1, 4, 0, 9, 43, 44, 45]), false), (9, (some [1, 4, 0, 9, 43, 44, 45, 11, 10]), false), (10, (some [1, 4, 0, 9, 43, 44, 45, 11]), false), (11, (some []), false), (12, (some [1, 4, 0, 9, 43, 44, 45, 11]), false), (13, (some []), false), (14, (some [1, 4, 0, 9, 43, 44, 45]), false), (15, (some []), false)]⟩
noncomputable def k34 : KFunc := kOf 8 (compF Tryd.prog nm hint34 Tryd.f34 true)
noncomputable def k34_c0 : KCode := k34.body.at_ [1, 1, 1, 1, 1, 1]
noncomputable def k34_b0 : KCode := k34.body.at_ [1, 1, 1, 1, 1, 0, 1, 0, 0]
def an34 : Ann := ⟨lkN [(12, [.im 6]), (15, [.int .i64, .str, .int .i64, .str, .int .i64, .int .i64]), (8, [.int .i64, .str, .int .i64, .str, .int .i64, .int .i64]), (17, [.int .i64]), (19, [.im 1]), (22, [.bool]), (32, [.int .i64, .str, .int .i64, .str, .int .i64, .int .i64]), (36, [.im 1]), (38, [.bool]), (40, [.int .i64]), (42, [.int .i64]), (49, [.int .i64])], resT, imB, noB⟩
noncomputable def h34_0 (Cl : Oracle) (n : Nat) (bx : List (List C)) (m0 : Nat) (S : Go.Abs.St) : Option (V × List (List C)) := iterK 0 (evCA an34 Cl n k34_b0) (some [1, 4, 0, 9, 43, 44, 45]) true m0 S (blockK 0 (seqK (evCA an34 Cl n k34_c0) (retK [.slot 7] true bx)))
def hint35 : Hint := ⟨27, 3, [], [], [(0, (some [0]), false), (1, (some [0]), false), (2, (some [3]), false), (3, (some [3]), false), (4, (some [3]), false), (5, (some [3]), false), (6, (some [3]), false), (7, (some [3]), false), (8, (some []), false), (9, (some [3]), false), (10, (some [3]), false), (11, (some []), false), (12, (some [3]), false), (13, (some [3]), false), (14, (some [3]), false), (15, (some [3]), false), (16, (some [3]), false), (17, (some [3]), false), (18, (some [3]), false), (19, (some [3]), false), (20, (some [3]), false), (21, (some [3]), false), (22, (some [3]), false), (23, (some [3]), false), (24, (some []), false), (25, (some []), false)]⟩
noncomputable def k35 : KFunc := kOf 8 (compF Tryd.prog nm hint35 Tryd.f35 true)
noncomputable def k35_b0 : KCode := k35.body.at_ [1, 1]
def an35 : Ann := ⟨lkN [], resT, imB, noB⟩
noncomputable def h35_0 (Cl : Oracle) (n : Nat) (bx : List (List C)) (m0 : Nat) (S : Go.Abs.St) : Option (V × List (List C)) := jumpK 0 (evCA an35 Cl n k35_b0) m0 S (retK [.slot 2] true bx)
def hint36 : Hint := ⟨79, 3, [], [], [(0, (some [0]), false), (1, (some [1]), false), (2, (some [1, 4]), false), (3, (some [1]), false), (4, (some [1, 4]), false), (5, (some [1]), false), (6, (some [1, 4]), false), (7, (some [1]), false), (8, (some [1, 4]), false), (9, (some [1]), false), (10, (some [1]), false)]⟩
noncomputable def k36 : KFunc := kOf 8 (compF Tryd.prog nm hint36 Tryd.f36 true)
def an36 : Ann := ⟨lkN [(4, [.int .i64]), (8, [.str]), (12, [.int .i64]), (17, [.str]), (23, [.str]), (27, [.str]), (33, [.str]), (37, [.str]), (42, [.int .i64]), (46, [.int .i64]), (53, [.str]), (57, [.int .i64]), (62, [.str]), (67, [.str]), (71, [.int .i64]), (76, [.str])], resT, imB, noB⟩
def hint37 : Hint := ⟨19, 6, [], [], [(0, (some [1, 0]), false), (1, (some [1, 0]), false), (2, (some [1, 0]), false), (3, (some [1]), false)]⟩
noncomputable def k37 : KFunc := kOf 8 (compF Tryd.prog nm hint37 Tryd.f37 true)
def an37 : Ann := ⟨lkN [(12, [.im 1]), (16, [.im 1])], resT, imB, noB⟩
def hint38 : Hint := ⟨27, 3, [], [], [(0, (some [0]), false), (1, (some [1]), false), (2, (some [1, 4]), false), (3, (some [1]), false), (4, (some [1, 4]), false), (5, (some [1]), false), (6, (some [1, 4]), false), (7, (some [1]), false), (8, (some [1, 4]), false), (9, (some [1]), false), (10, (some [4]), false), (11, (some []), false), (12, (some []), false)]⟩
noncomputable def k38 : KFunc := kOf 8 (compF Tryd.prog nm hint38 Tryd.f38 true)
def an38 : Ann := ⟨lkN [(4, [.int .i64]), (8, [.str]), (12, [.int .i64]), (17, [.int .i64]), (23, [.str])], resT, imB, noB⟩
def hint39 : Hint := ⟨22, 3, [], [], [(0, (some [0]), false), (1, (some [0]), false), (2, (some [3]), false), (3, (some []), false), (4, (some [3]), false), (5, (some []), false), (6, (some [3]), false), (7, (some []), false), (8, (some [3]), false), (9, (some []), false), (10, (some [3]), false), (11, (some []), false), (12, (some [3]), false), (13, (some []), false), (14, (some [3]), false), (15, (some []), false), (16, (some [3]), false), (17, (some []), false), (18, (some [3]), false), (19, (some []), false), (20, (some []), false)]⟩
noncomputable def k39 : KFunc := kOf 8 (compF Tryd.prog nm hint39 Tryd.f39 true)
def an39 : Ann := ⟨lkN [], resT, imB, noB⟩
def hint40 : Hint := ⟨10, 3, [], [], [(0, (some [0]), false), (1, (some [0]), false), (2, (some [3]), false), (3, (some []), false), (4, (some [3]), false), (5, (some []), false), (6, (some [3]), false), (7, (some []), false), (8, (some []), false)]⟩
noncomputable def k40 : KFunc := kOf 8 (compF Tryd.prog nm hint40 Tryd.f40 true)
def an40 : Ann := ⟨lkN [], resT, imB, noB⟩
def hint41 : Hint := ⟨46, 3, [], [], [(0, (some [0]), false), (1, (some [0]), false), (2, (some [3]), false), (3, (some [3]), false), (4, (some [3]), false), (5, (some [3]), false), (6, (some [3]), false), (7, (some [3]), false), (8, (some [3]), false), (9, (some [3]), false), (10, (some [3]), false), (11, (some [3]), false), (12, (some [3]), false), (13, (some [3]), false), (14, (some [3]), false), (15, (some []), false), (16, (some [3]), false), (17, (some [3]), false), (18, (some [3]), false), (19, (some [3]), false), (20, (some [3]), false), (21, (some [3]), false), (22, (some [3]), false), (23, (some [3]), false), (24, (some [3]), false), (25, (some [3]), false), (26, (some [3]), false), (27, (some [3]), false), (28, (some [3]), false), (29, (some []), false), (30, (some [3]), false), (31, (some [3]), false), (32, (some [3]), false), (33, (some [3]), false), (34, (some [3]), false), (35, (some [3]), false), (36, (some [3]), false), (37, (some [3]), false), (38, (some [3]), false), (39, (some [3]), false), (40, (some [3]), false), (41, (some [3]), false), (42, (some [3]), false), (43, (some []), false), (44, (some []), false)]⟩
noncomputable def k41 : KFunc := kOf 8 (compF Tryd.prog nm hint41 Tryd.f41 true)
noncomputable def k41_b0 : KCode := k41.body.at_ [1, 1]
def an41 : Ann := ⟨lkN [], resT, imB, noB⟩
noncomputable def h41_0 (Cl : Oracle) (n : Nat) (bx : List (List C)) (m0 : Nat) (S : Go.Abs.St) : Option (V × List (List C)) := jumpK 0 (evCA an41 Cl n k41_b0) m0 S (retK [.slot 2] true bx)
def hint43 : Hint := ⟨11, 3, [], [], [(0, (some [0, 1]), false), (1, (some [0, 1]), false), (2, (some [0, 1]), false), (3, (some []), false)]⟩
noncomputable def k43 : KFunc := kOf 8 (compF Tryd.prog nm hint43 Tryd.f43 true)
def an43 : Ann := ⟨lkN [(5, [.str]), (8, [.str])], resT, imB, noB⟩
def hint44 : Hint := ⟨13, 3, [], [], [(0, (some [0]), false), (1, (some [0]), false)]⟩
noncomputable def k44 : KFunc := kOf 8 (compF Tryd.prog nm hint44 Tryd.f44 true)
def an44 : Ann := ⟨lkN [], resT, imB, noB⟩
def hint45 : Hint := ⟨10, 3, [], [], [(0, (some [0]), false), (1, (some [0]), false), (2, (some [0]), false), (3, (some [0]), false)]⟩
noncomputable def k45 : KFunc := kOf 8 (compF Tryd.prog nm hint45 Tryd.f45 true)
def an45 : Ann := ⟨lkN [], resT, imB, noB⟩
def hint46 : Hint := ⟨33, 3, [], [], [(0, (some [0]), false), (1, (some [0]), false)]⟩
noncomputable def k46 : KFunc := kOf 8 (compF Tryd.prog nm hint46 Tryd.f46 true)
def an46 : Ann := ⟨lkN [(9, [.im 3]), (13, [.int .i64]), (16, [.int .i64]), (23, [.im 3]), (27, [.int .i64]), (30, [.str])], resT, imB, noB⟩
def hint48 : Hint := ⟨51, 4, [], [], [(0, (some [0]), true), (1, (some [0]), false), (2, (some [0, 2]), false), (3, (some [0, 3, 2]), false), (4, (some [0, 3, 2]), false), (5, (some [0, 3, 2]), false), (6, (some [0, 3, 2]), false), (7, (some [3, 2, 0]), false), (8, (some [3, 2, 0]), false)]⟩
noncomputable def k48 : KFunc := kOf 8 (compF Tryd.prog nm hint48 Tryd.f48 true)
noncomputable def k48_b1 : KCode := k48.body.at_ [0, 0, 1, 0, 1, 1, 1]
noncomputable def k48_b0 : KCode := k48.body.at_ [0, 0]
def an48 : Ann := ⟨lkN [(13, [.im 10]), (3, [.int .i64, .str, .str, .str, .str, .int .i64, .im 1, .im 3, .im 3, .int .i64]), (21, [.im 10]), (22, [.int .i64, .str, .str, .str, .str, .int .i64, .im 1, .im 3, .im 3, .int .i64]), (27, [.im 10]), (32, [.int .i64]), (37, [.im 10]), (39, [.int .i64, .str, .str, .str, .str, .int .i64, .im 1, .im 3, .im 3, .int .i64]), (40, [.int .i64, .str, .str, .str, .str, .int .i64, .im 1, .im 3, .im 3, .int .i64]), (47, [.im 10]), (49, [.int .i64, .str, .str, .str, .str, .int .i64, .im 1, .im 3, .im 3, .int .i64]), (50, [.int .i64, .str, .str, .str, .str, .int .i64, .im 1, .im 3, .im 3, .int .i64])], resT, imB, noB⟩
noncomputable def h48_0 (Cl : Oracle) (n : Nat) (bx : List (List C)) (m0 : Nat) (S : Go.Abs.St) : Option (V × List (List C)) := iterK 0 (evCA an48 Cl n k48_b0) (some [0]) true m0 S (blockK 0 (retK [] true bx))
noncomputable def h48_1 (Cl : Oracle) (n : Nat) (bx : List (List C)) (m0 : Nat) (m1 : Nat) (S : Go.Abs.St) : Option (V × List (List C)) := jumpK 1 (evCA an48 Cl n k48_b1) m1 S (blockK 1 (nextK (some [0]) true (h48_0 Cl n bx m0) (blockK 0 (retK [] true bx))))
def hint49 : Hint := ⟨40, 4, [], [], [(0, (some [0]), false), (1, (some [0]), false), (2, (some []), false), (3, (some [0]), false), (4, (some [0, 3]), true), (6, (some [0, 3]), false), (7, (some []), false), (5, (some [0, 3]), false), (8, (some []), false)]⟩
noncomputable def k49 : KFunc := kOf 8 (compF Tryd.prog nm hint49 Tryd.f49 true)
noncomputable def k49_c0 : KCode := k49.body.at_ [1, 1, 1]
noncomputable def k49_b0 : KCode := k49.body.at_ [1, 1, 0, 1, 0, 0]
def an49 : Ann := ⟨lkN [], resT, imB, noB⟩
noncomputable def h49_0 (Cl : Oracle) (n : Nat) (bx : List (List C)) (m0 : Nat) (S : Go.Abs.St) : Option (V × List (List C)) := iterK 0 (evCA an49 Cl n k49_b0) (some [0, 3]) true m0 S (blockK 0 (seqK (evCA an49 Cl n k49_c0) (retK [.slot 2] true bx)))
def hint52 : Hint := ⟨5, 3, [], [], [(0, (some [0]), false), (1, (some [0]), false)]⟩
noncomputable def k52 : KFunc := kOf 8 (compF Tryd.prog nm hint52 Tryd.f52 true)
def an52 : Ann := ⟨lkN [], resT, imB, noB⟩
def hint53 : Hint := ⟨57, 6, [], [], [(0, (some [0]), false), (1, (some [0]), false), (2, (some [3, 0]), false), (3, (some [0, 4, 3]), true), (5, (some [0, 4, 3]), false), (7, (some [0, 4, 5, 3]), false), (8, (some [0, 4, 5, 3]), false), (9, (some [0, 4, 3, 5]), false), (10, (some [0, 4, 3]), false), (11, (some [0, 4, 5, 3]), false), (12, (some [0, 4, 5, 3]), false), (6, (some [0, 4, 5, 3]), false), (4, (some [3, 0, 4]), false), (13, (some [3]), false)]⟩
noncomputable def k53 : KFunc := kOf 8 (compF Tryd.prog nm hint53 Tryd.f53 true)
noncomputable def k53_c0 : KCode := k53.body.at_ [1, 1, 1]
noncomputable def k53_b1 : KCode := k53.body.at_ [1, 1, 0, 1, 0, 0, 1, 1]
noncomputable def k53_b0 : KCode := k53.body.at_ [1, 1, 0, 1, 0, 0]
def an53 : Ann := ⟨lkN [], resT, imB, noB⟩
noncomputable def h53_0 (Cl : Oracle) (n : Nat) (bx : List (List C)) (m0 : Nat) (S : Go.Abs.St) : Option (V × List (List C)) := iterK 0 (evCA an53 Cl n k53_b0) (some [0, 4, 3]) true m0 S (blockK 0 (seqK (evCA an53 Cl n k53_c0) (retK [.slot 2] true bx)))
noncomputable def h53_1 (Cl : Oracle) (n : Nat) (bx : List (List C)) (m0 : Nat) (m1 : Nat) (S : Go.Abs.St) : Option (V × List (List C)) := jumpK 1 (evCA an53 Cl n k53_b1) m1 S (nextK (some [0, 4, 3]) true (h53_0 Cl n bx m0) (blockK 0 (seqK (evCA an53 Cl n k53_c0) (retK [.slot 2] true bx))))
def hint57 : Hint := ⟨178, 5, [], [], [(0, (some [0, 1]), false), (2, (some [0, 1]), false), (3, (some [0, 1]), false), (4, (some [0, 1]), false), (5, (some [0, 1]), false), (6, (some [0, 1]), false), (7, (some [0, 1]), false), (8, (some [0, 1]), false), (9, (some [0, 1]), false), (10, (some [0, 1]), false), (11, (some [0, 1]), false), (12, (some [0, 1]), false), (13, (some [0, 1]), false), (14, (some [0, 1]), false), (15, (some [0, 1]), false), (16, (some [0, 1]), false), (17, (some [0, 1]), false), (18, (some [0, 1]), false), (19, (some [0]), false), (20, (some [0, 1]), false), (21, (some [0, 1]), false), (22, (some [0, 1]), false), (23, (some [0, 1]), false), (24, (some [0, 1]), false), (25, (some [0, 1]), false), (26, (some [0, 1]), false), (27, (some [0, 1]), false), (28, (some [0, 1]), false), (29, (some [0, 1]), false), (30, (some [0, 1]), false), (31, (some [0, 1]), false), (32, (some [0, 1]), false), (33, (some [0, 1]), false), (34, (some [0, 1]), false), (35, (some [0, 1]), false), (1, (some []), false), (36, (some [0]), false), (37, (some []), false)]⟩
noncomputable def k57 : KFunc := kOf 8 (compF Tryd.prog nm hint57 Tryd.f57 true)
noncomputable def k57_b1 : KCode := k57.body.at_ [1, 1]
noncomputable def k57_b0 : KCode := k57.body.at_ [1, 0, 0, 1, 1, 1, 1, 1, 0, 1, 1, 1, 1, 1, 1, 1]
def an57 : Ann := ⟨lkN [(12, [.int .i64]), (19, [.str]), (28, [.int .i64]), (36, [.int .i64]), (41, [.int .i64]), (49, [.int .i64]), (56, [.str]), (67, [.str]), (74, [.str]), (88, [.int .i64]), (100, [.int .i64]), (107, [.str]), (112, [.im 1]), (120, [.int .i64]), (127, [.str]), (138, [.str]), (149, [.str]), (158, [.im 3]), (166, [.int .i64]), (173, [.str])], resT, imB, noB⟩
noncomputable def h57_1 (Cl : Oracle) (n : Nat) (bx : List (List C)) (m1 : Nat) (S : Go.Abs.St) : Option (V × List (List C)) := jumpK 1 (evCA an57 Cl n k57_b1) m1 S (retK [.slot 4] true bx)
noncomputable def h57_0 (Cl : Oracle) (n : Nat) (bx : List (List C)) (m0 : Nat) (S : Go.Abs.St) : Option (V × List (List C)) := jumpK 0 (evCA an57 Cl n k57_b0) m0 S (blockK 0 (seqK (joinK 1 (some [0]) false n (evCA an57 Cl n k57_b1)) (retK [.slot 4] true bx)))
def hint58 : Hint := ⟨153, 4, [], [], [(1, (some [1, 0]), false), (2, (some [1]), false), (3, (some [1, 0]), false), (4, (some [1]), false), (5, (some [0, 1]), false), (6, (some [0, 1]), false), (7, (some [0, 1]), false), (8, (some [0, 1]), false), (9, (some [0, 1]), false), (10, (some [0, 1]), false), (11, (some [0, 1]), false), (12, (some [0, 1]), false), (13, (some [0, 1]), false), (14, (some [0, 1]), false), (15, (some [0, 1]), false), (16, (some [0, 1]), false), (17, (some [0, 1]), false), (18, (some [0, 1]), false), (19, (some [0, 1]), false), (20, (some [0, 1]), false), (21, (some [0, 1]), false), (22, (some [0, 1]), true), (23, (some [0, 1]), false), (24, (some [0]), false), (0, (some [0]), false)]⟩
noncomputable def k58 : KFunc := kOf 8 (compF Tryd.prog nm hint58 Tryd.f58 true)
noncomputable def k58_b0 : KCode := k58.body.at_ [0, 1, 1, 1, 1, 1, 1, 1, 0, 1, 1, 1]
noncomputable def k58_c0 : KCode := k58.body.at_ [0, 1, 1, 1, 1, 1, 1, 1, 1, 1, 0, 1, 1, 1, 1, 1, 1, 1]
noncomputable def k58_b1 : KCode := k58.body.at_ [0, 1, 1, 1, 1, 1, 1, 1, 1, 1, 0, 1, 1, 1, 1, 1, 1, 0, 0, 0]
def an58 : Ann := ⟨lkN [(15, [.int .i64]), (23, [.int .i64]), (31, [.int .i64]), (38, [.str]), (43, [.im 1]), (51, [.int .i64]), (56, [.int .i64]), (61, [.im 3]), (68, [.im 3]), (77, [.im 3]), (84, [.im 3]), (92, [.int .i64]), (99, [.str]), (110, [.str]), (119, [.im 3]), (125, [.im 3]), (142, [.im 3]), (148, [.im 3])], resT, imB, noB⟩
noncomputable def h58_0 (Cl : Oracle) (n : Nat) (bx : List (List C)) (m0 : Nat) (S : Go.Abs.St) : Option (V × List (List C)) := jumpK 0 (evCA an58 Cl n k58_b0) m0 S (blockK 0 (retK [] true bx))
noncomputable def h58_1 (Cl : Oracle) (n : Nat) (bx : List (List C)) (m1 : Nat) (S : Go.Abs.St) : Option (V × List (List C)) := iterK 1 (evCA an58 Cl n k58_b1) (some [0, 1]) true m1 S (blockK 1 (seqK (evCA an58 Cl n k58_c0) (blockK 0 (retK [] true bx))))
def hint59 : Hint := ⟨9, 3, [], [], [(0, (some [0]), false), (1, (some [0]), false)]⟩
noncomputable def k59 : KFunc := kOf 8 (compF Tryd.prog nm hint59 Tryd.f59 true)
def an59 : Ann := ⟨lkN [], resT, imB, noB⟩
def hint60 : Hint := ⟨9, 3, [], [], [(0, (some [0]), false), (1, (some [0]), false)]⟩
noncomputable def k60 : KFunc := kOf 8 (compF Tryd.prog nm hint60 Tryd.f60 true)
def an60 : Ann := ⟨lkN [], resT, imB, noB⟩
def hint63 : Hint := ⟨4, 3, [], [], [(0, (some [0]), false), (1, (some [0]), false), (2, (some []), false), (3, (some []), false)]⟩
noncomputable def k63 : KFunc := kOf 8 (compF Tryd.prog nm hint63 Tryd.f63 true)
def an63 : Ann := ⟨lkN [], resT, imB, noB⟩
def hint69 : Hint := ⟨9, 3, [], [], [(0, (some [0]), false), (1, (some [0]), false)]⟩
noncomputable def k69 : KFunc := kOf 8 (compF Tryd.prog nm hint69 Tryd.f69 true)
def an69 : Ann := ⟨lkN [], resT, imB, noB⟩
def hint70 : Hint := ⟨43, 4, [], [], [(0, (some [0]), false), (1, (some [0]), false), (2, (some [0, 3]), false), (3, (some [0, 3]), true), (4, (some [0, 3]), false), (5, (some [3, 0]), false), (6, (some [0, 3]), false), (7, (some [0, 3]), false), (8, (some [3, 0]), false), (9, (some [3]), false)]⟩
noncomputable def k70 : KFunc := kOf 8 (compF Tryd.prog nm hint70 Tryd.f70 true)
noncomputable def k70_b2 : KCode := k70.body.at_ [1, 1, 1, 1]
noncomputable def k70_b1 : KCode := k70.body.at_ [1, 1, 1, 0, 0, 0, 1, 0, 1]
noncomputable def k70_b0 : KCode := k70.body.at_ [1, 1, 1, 0, 0, 0]
def an70 : Ann := ⟨lkN [], resT, imB, noB⟩
noncomputable def h70_2 (Cl : Oracle) (n : Nat) (bx : List (List C)) (m2 : Nat) (S : Go.Abs.St) : Option (V × List (List C)) := jumpK 2 (evCA an70 Cl n k70_b2) m2 S (retK [.slot 2] true bx)
noncomputable def h70_0 (Cl : Oracle) (n : Nat) (bx : List (List C)) (m0 : Nat) (S : Go.Abs.St) : Option (V × List (List C)) := iterK 0 (evCA an70 Cl n k70_b0) (some [0, 3]) true m0 S (blockK 0 (seqK (joinK 2 (some [3, 0]) false n (evCA an70 Cl n k70_b2)) (retK [.slot 2] true bx)))
noncomputable def h70_1 (Cl : Oracle) (n : Nat) (bx : List (List C)) (m0 : Nat) (m1 : Nat) (S : Go.Abs.St) : Option (V × List (List C)) := jumpK 1 (evCA an70 Cl n k70_b1) m1 S (blockK 1 (nextK (some [0, 3]) true (h70_0 Cl n bx m0) (blockK 0 (seqK (joinK 2 (some [3, 0]) false n (evCA an70 Cl n k70_b2)) (retK [.slot 2] true bx)))))
def hint71 : Hint := ⟨37, 5, [], [], [(0, (some [0]), false), (1, (some [0]), false), (2, (some [0, 3]), true), (3, (some [0, 3]), false), (4, (some [0, 4, 3]), false), (5, (some [0, 4, 3]), false), (6, (some [0, 4, 3]), false), (7, (some [0, 4, 3]), false), (8, (some [3, 0]), false), (9, (some [3]), false)]⟩
noncomputable def k71 : KFunc := kOf 8 (compF Tryd.prog nm hint71 Tryd.f71 true)
noncomputable def k71_c0 : KCode := k71.body.at_ [1, 1, 1]
noncomputable def k71_b1 : KCode := k71.body.at_ [1, 1, 0, 0, 0, 1, 0, 1, 1, 1, 1, 1]
noncomputable def k71_b0 : KCode := k71.body.at_ [1, 1, 0, 0, 0]
def an71 : Ann := ⟨lkN [(4, [.str, .str, .im 1]), (23, [.str]), (26, [.im 1]), (28, [.str, .str, .im 1])], resT, imB, noB⟩
noncomputable def h71_0 (Cl : Oracle) (n : Nat) (bx : List (List C)) (m0 : Nat) (S : Go.Abs.St) : Option (V × List (List C)) := iterK 0 (evCA an71 Cl n k71_b0) (some [0, 3]) true m0 S (blockK 0 (seqK (evCA an71 Cl n k71_c0) (retK [.slot 2] true bx)))
noncomputable def h71_1 (Cl : Oracle) (n : Nat) (bx : List (List C)) (m0 : Nat) (m1 : Nat) (S : Go.Abs.St) : Option (V × List (List C)) := jumpK 1 (evCA an71 Cl n k71_b1) m1 S (blockK 1 (nextK (some [0, 3]) true (h71_0 Cl n bx m0) (blockK 0 (seqK (evCA an71 Cl n k71_c0) (retK [.slot 2] true bx)))))
def hint72 : Hint := ⟨36, 4, [2], [], [(0, (some [0]), false), (1, (some [2, 0]), false), (2, (some [2, 3, 0]), false), (3, (some [2, 3, 0]), false), (4, (some [2, 3, 0]), false), (5, (some [2, 3, 0]), false), (6, (some [2, 3, 0]), false), (7, (some [2, 3, 0]), false), (8, (some [2, 3, 0]), false), (9, (some [2, 3]), false)]⟩
noncomputable def k72 : KFunc := kOf 8 (compF Tryd.prog nm hint72 Tryd.f72 true)
noncomputable def k72_b1 : KCode := k72.body.at_ [1, 1, 1]
noncomputable def k72_b0 : KCode := k72.body.at_ [1, 1, 0, 1, 0, 1, 1, 1]
def an72 : Ann := ⟨lkN [(13, [.str]), (27, [.str]), (34, [.int .i64]), (35, [.str, .str, .int .i64]), (2, [.str, .str, .int .i64])], resT, imB, noB⟩
noncomputable def h72_1 (Cl : Oracle) (n : Nat) (bx : List (List C)) (m1 : Nat) (S : Go.Abs.St) : Option (V × List (List C)) := jumpK 1 (evCA an72 Cl n k72_b1) m1 S (retK [.cell 2 3 true] true bx)
noncomputable def h72_0 (Cl : Oracle) (n : Nat) (bx : List (List C)) (m0 : Nat) (S : Go.Abs.St) : Option (V × List (List C)) := jumpK 0 (evCA an72 Cl n k72_b0) m0 S (seqK (joinK 1 (some [2, 3, 0]) false n (evCA an72 Cl n k72_b1)) (retK [.cell 2 3 true] true bx))
def hint82 : Hint := ⟨51, 14, [], [], [(0, (some [0, 1, 3, 2]), false), (1, (some [0, 1, 3, 2]), false), (2, (some [9, 0, 1, 3, 2]), true), (3, (some [9, 0, 1, 3, 2]), false), (4, (some [9, 0, 1, 3, 2, 10]), false), (5, (some [9, 0, 1, 3, 2, 21, 10, 22, 23]), true), (6, (some [9, 0, 1, 3, 2, 21, 10, 22, 23]), false), (7, (some [9, 0, 1, 3, 2, 11, 21, 10, 22, 23, 12]), false), (8, (some [9, 0, 1, 3, 2, 11]), false), (9, (some [9, 0, 1, 3, 2, 21, 10, 22, 23]), false), (10, (some [9, 0, 1, 3, 2, 10]), false), (11, (some [0, 1, 3, 2, 9, 10]), false), (12, (some [0, 1, 3, 2, 13, 9]), false), (13, (some [0, 1, 3, 2, 13]), false), (14, (some [0, 1, 3, 2, 13]), false), (15, (some [9]), false)]⟩
noncomputable def k82 : KFunc := kOf 8 (compF Tryd.prog nm hint82 Tryd.f82 true)
noncomputable def k82_c0 : KCode := k82.body.at_ [1, 1, 1]
noncomputable def k82_b2 : KCode := k82.body.at_ [1, 1, 0, 0, 0, 1, 0, 1, 1]
noncomputable def k82_b1 : KCode := k82.body.at_ [1, 1, 0, 0, 0, 1, 0, 1, 0, 1, 0, 0]
noncomputable def k82_b0 : KCode := k82.body.at_ [1, 1, 0, 0, 0]
def an82 : Ann := ⟨lkN [(27, [.str]), (36, [.int .i64]), (13, [.int .i64, .str, .int .i64, .str, .int .i64, .int .i64]), (43, [.int .i64]), (46, [.int .i64]), (48, [.int .i64, .str, .int .i64, .str, .int .i64, .int .i64])], resT, imB, noB⟩
noncomputable def h82_0 (Cl : Oracle) (n : Nat) (bx : List (List C)) (m0 : Nat) (S : Go.Abs.St) : Option (V × List (List C)) := iterK 0 (evCA an82 Cl n k82_b0) (some [9, 0, 1, 3, 2]) true m0 S (blockK 0 (seqK (evCA an82 Cl n k82_c0) (retK [.slot 8] true bx)))
noncomputable def h82_2 (Cl : Oracle) (n : Nat) (bx : List (List C)) (m0 : Nat) (m2 : Nat) (S : Go.Abs.St) : Option (V × List (List C)) := jumpK 2 (evCA an82 Cl n k82_b2) m2 S (blockK 1 (nextK (some [9, 0, 1, 3, 2]) true (h82_0 Cl n bx m0) (blockK 0 (seqK (evCA an82 Cl n k82_c0) (retK [.slot 8] true bx)))))
noncomputable def h82_1 (Cl : Oracle) (n : Nat) (bx : List (List C)) (m0 : Nat) (m1 : Nat) (S : Go.Abs.St) : Option (V × List (List C)) := iterK 1 (evCA an82 Cl n k82_b1) (some [9, 0, 1, 3, 2, 21, 10, 22, 23]) true m1 S (blockK 2 (seqK (joinK 2 (some [9, 0, 1, 3, 2, 10]) false n (evCA an82 Cl n k82_b2)) (blockK 1 (nextK (some [9, 0, 1, 3, 2]) true (h82_0 Cl n bx m0) (blockK 0 (seqK (evCA an82 Cl n k82_c0) (retK [.slot 8] true bx)))))))
def hint83 : Hint := ⟨9, 3, [], [], [(0, (some [0]), false), (1, (some [0]), false)]⟩
noncomputable def k83 : KFunc := kOf 8 (compF Tryd.prog nm hint83 Tryd.f83 true)
def an83 : Ann := ⟨lkN [], resT, imB, noB⟩
def hint90 : Hint := ⟨5, 3, [2], [], [(0, (some [0]), false), (1, (some [2, 0]), false)]⟩
noncomputable def k90 : KFunc := kOf 8 (compF Tryd.prog nm hint90 Tryd.f90 true)
def an90 : Ann := ⟨lkN [(2, [.int .i64, .str, .int .i64, .str, .int .i64, .int .i64])], resT, imB, noB⟩
def hint91 : Hint := ⟨24, 5, [], [], [(0, (some [0, 1]), false), (1, (some [0, 3]), false), (2, (some [0]), false)]⟩
noncomputable def k91 : KFunc := kOf 8 (compF Tryd.prog nm hint91 Tryd.f91 true)
noncomputable def k91_b0 : KCode := k91.body.at_ [1, 1]
def an91 : Ann := ⟨lkN [(10, [.im 6]), (11, [.int .i64, .str, .int .i64, .str, .int .i64, .int .i64]), (16, [.im 6]), (21, [.im 6])], resT, imB, noB⟩
noncomputable def h91_0 (Cl : Oracle) (n : Nat) (bx : List (List C)) (m0 : Nat) (S : Go.Abs.St) : Option (V × List (List C)) := jumpK 0 (evCA an91 Cl n k91_b0) m0 S (retK [.slot 4] true bx)
def hint92 : Hint := ⟨39, 5, [], [], [(0, (some [0]), false), (1, (some [0]), false), (2, (some [0]), false), (3, (some [3, 0]), false), (4, (some [3, 0]), false), (5, (some [0]), false), (6, (some [4, 0]), false), (8, (some [4, 0]), false), (9, (some [4, 0]), false), (10, (some [4, 0]), false), (7, (some [4]), false), (11, (some [4, 0]), false), (12, (some [4, 0]), false)]⟩
noncomputable def k92 : KFunc := kOf 8 (compF Tryd.prog nm hint92 Tryd.f92 true)
noncomputable def k92_b0 : KCode := k92.body.at_ [1, 1, 1, 1, 1]
def an92 : Ann := ⟨lkN [(3, [.int .i64, .str, .int .i64, .str, .int .i64, .int .i64]), (12, [.int .i64]), (14, [.int .i64, .str, .int .i64, .str, .int .i64, .int .i64]), (4, [.int .i64, .str, .int .i64, .str, .int .i64, .int .i64]), (19, [.int .i64]), (32, [.int .i64]), (21, [.int .i64]), (35, [.int .i64]), (37, [.int .i64, .str, .int .i64, .str, .int .i64, .int .i64])], resT, imB, noB⟩
noncomputable def h92_0 (Cl : Oracle) (n : Nat) (bx : List (List C)) (m0 : Nat) (S : Go.Abs.St) : Option (V × List (List C)) := jumpK 0 (evCA an92 Cl n k92_b0) m0 S (retK [.slot 2] true bx)
def hint95 : Hint := ⟨9, 3, [], [], [(0, (some [0]), false), (1, (some [0]), false)]⟩
noncomputable def k95 : KFunc := kOf 8 (compF Tryd.prog nm hint95 Tryd.f95 true)
def an95 : Ann := ⟨lkN [], resT, imB, noB⟩
def hint96 : Hint := ⟨9, 3, [], [], [(0, (some [0]), false), (1, (some [0]), false)]⟩
noncomputable def k96 : KFunc := kOf 8 (compF Tryd.prog nm hint96 Tryd.f96 true)
def an96 : Ann := ⟨lkN [], resT, imB, noB⟩
def hint97 : Hint := ⟨204, 8, [], [], [(0, (some [0]), false), (1, (some [0]), false), (2, (some []), false), (3, (some [0]), false), (4, (some [0]), false), (5, (some [3, 0]), false), (6, (some [3, 0]), false), (7, (some [0]), false), (8, (some [0]), false), (9, (some [0]), false), (10, (some [0]), false), (11, (some [0]), false), (12, (some [0]), false), (13, (some [0]), false), (14, (some [0]), false), (15, (some [0]), false), (16, (some [0]), false), (17, (some [0]), false), (18, (some [0]), false), (19, (some [0]), false), (20, (some [0]), false), (21, (some [0]), false), (22, (some [0]), false), (23, (some [4, 0]), false), (24, (some [4]), false), (25, (some [0]), false), (26, (some [0]), false), (27, (some [5, 0]), false), (28, (some [5, 0]), false), (29, (some [0]), false), (30, (some [0]), false), (31, (some [6, 0]), false), (32, (some [6, 0]), false), (33, (some [6, 0]), false), (34, (some [0]), false), (35, (some [0]), false), (36, (some [7, 0]), false), (37, (some [7, 0]), false), (38, (some [7, 0]), false), (39, (some [0]), false), (40, (some []), false)]⟩
noncomputable def k97 : KFunc := kOf 8 (compF Tryd.prog nm hint97 Tryd.f97 true)
def an97 : Ann := ⟨lkN [(3, [.int .i64, .str, .int .i64, .str, .int .i64, .int .i64]), (18, [.int .i64]), (20, [.int .i64, .str, .int .i64, .str, .int .i64, .int .i64]), (5, [.int .i64, .str, .int .i64, .str, .int .i64, .int .i64]), (96, [.str]), (98, [.int .i64, .str, .int .i64, .str, .int .i64, .int .i64]), (110, [.im 3]), (115, [.int .i64]), (118, [.int .i64]), (6, [.int .i64, .str, .int .i64, .str, .int .i64, .int .i64]), (127, [.im 3]), (132, [.int .i64]), (135, [.str]), (139, [.int .i64]), (144, [.int .i64]), (148, [.int .i64]), (150, [.int .i64, .str, .int .i64, .str, .int .i64, .int .i64]), (162, [.im 3]), (167, [.int .i64]), (170, [.int .i64]), (7, [.int .i64, .str, .int .i64, .str, .int .i64, .int .i64]), (178, [.im 3]), (183, [.int .i64]), (186, [.str]), (187, [.str]), (192, [.int .i64]), (196, [.int .i64]), (198, [.int .i64, .str, .int .i64, .str, .int .i64, .int .i64])], resT, imB, noB⟩
def hint98 : Hint := ⟨31, 6, [], [], [(0, (some [0, 1]), false), (1, (some [0, 1]), false), (2, (some [5, 0, 1]), false), (3, (some [5, 0, 1]), false), (4, (some [5, 0, 1]), false), (5, (some [5, 0]), false), (6, (some [5, 0]), false), (7, (some [5, 0]), false), (8, (some [5, 0]), false)]⟩
noncomputable def k98 : KFunc := kOf 8 (compF Tryd.prog nm hint98 Tryd.f98 true)
noncomputable def k98_b0 : KCode := k98.body.at_ [1, 1, 1, 1, 1]
def an98 : Ann := ⟨lkN [(5, [.int .i64, .str, .int .i64, .str, .int .i64, .int .i64]), (14, [.int .i64]), (23, [.int .i64]), (29, [.int .i64, .str, .int .i64, .str, .int .i64, .int .i64])], resT, imB, noB⟩
noncomputable def h98_0 (Cl : Oracle) (n : Nat) (bx : List (List C)) (m0 : Nat) (S : Go.Abs.St) : Option (V × List (List C)) := jumpK 0 (evCA an98 Cl n k98_b0) m0 S (retK [.slot 4] true bx)
theorem link3 : compF Tryd.prog nm hint3 Tryd.f3 true = some k3.fn := by kernel_rfl
theorem link4 : compF Tryd.prog nm hint4 Tryd.f4 true = some k4.fn := by kernel_rfl
theorem link5 : compF Tryd.prog nm hint5 Tryd.f5 true = some k5.fn := by kernel_rfl
theorem link6 : compF Tryd.prog nm hint6 Tryd.f6 true = some k6.fn := by kernel_rfl
theorem link7 : compF Tryd.prog nm hint7 Tryd.f7 true = some k7.fn := by kernel_rfl
theorem link8 : compF Tryd.prog nm hint8 Tryd.f8 true = some k8.fn := by kernel_rfl
theorem link9 : compF Tryd.prog nm hint9 Tryd.f9 true = some k9.fn := by kernel_rfl
theorem link10 : compF Tryd.prog nm hint10 Tryd.f10 true = some k10.fn := by kernel_rfl
theorem link11 : compF Tryd.prog nm hint11 Tryd.f11 true = some k11.fn := by kernel_rfl
theorem link12 : compF Tryd.prog nm hint12 Tryd.f12 true = some k12.fn := by kernel_rfl
theorem link13 : compF Tryd.prog nm hint13 Tryd.f13 true = some k13.fn := by kernel_rfl
theorem link14 : compF Tryd.prog nm hint14 Tryd.f14 true = some k14.fn := by kernel_rfl
theorem link15 : compF Tryd.prog nm hint15 Tryd.f15 true = some k15.fn := by kernel_rfl
theorem link16 : compF Tryd.prog nm hint16 Tryd.f16 true = some k16.fn := by kernel_rfl
theorem link17 : compF Tryd.prog nm hint17 Tryd.f17 true = some k17.fn := by kernel_rfl
theorem link18 : compF Tryd.prog nm hint18 Tryd.f18 true = some k18.fn := by kernel_rfl
theorem link19 : compF Tryd.prog nm hint19 Tryd.f19 true = some k19.fn := by kernel_rfl
theorem link20 : compF Tryd.prog nm hint20 Tryd.f20 true = some k20.fn := by kernel_rfl
theorem link21 : compF Tryd.prog nm hint21 Tryd.f21 true = some k21.fn := by kernel_rfl
theorem link22 : compF Tryd.prog nm hint22 Tryd.f22 true = some k22.fn := by kernel_rfl
theorem link23 : compF Tryd.prog nm hint23 Tryd.f23 true = some k23.fn := by kernel_rfl
theorem link24 : compF Tryd.prog nm hint24 Tryd.f24 true = some k24.fn := by kernel_rfl
theorem link25 : compF Tryd.prog nm hint25 Tryd.f25 true = some k25.fn := by kernel_rfl
theorem link26 : compF Tryd.prog nm hint26 Tryd.f26 true = some k26.fn := by kernel_rfl
theorem link27 : compF Tryd.prog nm hint27 Tryd.f27 true = some k27.fn := by kernel_rfl
theorem link28 : compF Tryd.prog nm hint28 Tryd.f28 true = some k28.fn := by kernel_rfl
theorem link29 : compF Tryd.prog nm hint29 Tryd.f29 true = some k29.fn := by kernel_rfl
theorem link30 : compF Tryd.prog nm hint30 Tryd.f30 true = some k30.fn := by kernel_rfl
theorem link31 : compF Tryd.prog nm hint31 Tryd.f31 true = some k31.fn := by kernel_rfl
theorem link32 : compF Tryd.prog nm hint32 Tryd.f32 true = some k32.fn := by kernel_rfl
theorem link33 : compF Tryd.prog nm hint33 Tryd.f33 true = some k33.fn := by kernel_rfl
theorem link34 : compF Tryd.prog nm hint34 Tryd.f34 true = some k34.fn := by kernel_rfl
theorem link35 : compF Tryd.prog nm hint35 Tryd.f35 true = some k35.fn := by kernel_rfl
theorem link36 : compF Tryd.prog nm hint36 Tryd.f36 true = some k36.fn := by kernel_rfl
theorem link37 : compF Tryd.prog nm hint37 Tryd.f37 true = some k37.fn := by kernel_rfl
theorem link38 : compF Tryd.prog nm hint38 Tryd.f38 true = some k38.fn := by kernel_rfl
theorem link39 : compF Tryd.prog nm hint39 Tryd.f39 true = some k39.fn := by kernel_rfl
theorem link40 : compF Tryd.prog nm hint40 Tryd.f40 true = some k40.fn := by kernel_rfl
theorem link41 : compF Tryd.prog nm hint41 Tryd.f41 true = some k41.fn := by kernel_rfl
theorem link43 : compF Tryd.prog nm hint43 Tryd.f43 true = some k43.fn := by kernel_rfl
theorem link44 : compF Tryd.prog nm hint44 Tryd.f44 true = some k44.fn := by kernel_rfl
theorem link45 : compF Tryd.prog nm hint45 Tryd.f45 true = some k45.fn := by kernel_rfl
theorem link46 : compF Tryd.prog nm hint46 Tryd.f46 true = some k46.fn := by kernel_rfl
theorem link48 : compF Tryd.prog nm hint48 Tryd.f48 true = some k48.fn := by kernel_rfl
theorem link49 : compF Tryd.prog nm hint49 Tryd.f49 true = some k49.fn := by kernel_rfl
theorem link52 : compF Tryd.prog nm hint52 Tryd.f52 true = some k52.fn := by kernel_rfl
theorem link53 : compF Tryd.prog nm hint53 Tryd.f53 true = some k53.fn := by kernel_rfl
theorem link57 : compF Tryd.prog nm hint57 Tryd.f57 true = some k57.fn := by kernel_rfl
theorem link58 : compF Tryd.prog nm hint58 Tryd.f58 true = some k58.fn := by kernel_rfl
theorem link59 : compF Tryd.prog nm hint59 Tryd.f59 true = some k59.fn := by kernel_rfl
theorem link60 : compF Tryd.prog nm hint60 Tryd.f60 true = some k60.fn := by kernel_rfl
theorem link63 : compF Tryd.prog nm hint63 Tryd.f63 true = some k63.fn := by kernel_rfl
theorem link69 : compF Tryd.prog nm hint69 Tryd.f69 true = some k69.fn := by kernel_rfl
theorem link70 : compF Tryd.prog nm hint70 Tryd.f70 true = some k70.fn := by kernel_rfl
theorem link71 : compF Tryd.prog nm hint71 Tryd.f71 true = some k71.fn := by kernel_rfl
theorem link72 : compF Tryd.prog nm hint72 Tryd.f72 true = some k72.fn := by kernel_rfl
theorem link82 : compF Tryd.prog nm hint82 Tryd.f82 true = some k82.fn := by kernel_rfl
theorem link83 : compF Tryd.prog nm hint83 Tryd.f83 true = some k83.fn := by kernel_rfl
theorem link90 : compF Tryd.prog nm hint90 Tryd.f90 true = some k90.fn := by kernel_rfl
theorem link91 : compF Tryd.prog nm hint91 Tryd.f91 true = some k91.fn := by kernel_rfl
theorem link92 : compF Tryd.prog nm hint92 Tryd.f92 true = some k92.fn := by kernel_rfl
theorem link95 : compF Tryd.prog nm hint95 Tryd.f95 true = some k95.fn := by kernel_rfl
theorem link96 : compF Tryd.prog nm hint96 Tryd.f96 true = some k96.fn := by kernel_rfl
theorem link97 : compF Tryd.prog nm hint97 Tryd.f97 true = some k97.fn := by kernel_rfl
theorem link98 : compF Tryd.prog nm hint98 Tryd.f98 true = some k98.fn := by kernel_rfl
noncomputable def tab : Nat → Option IFunc
  | 3 => some k3.fn
  | 4 => some k4.fn
  | 5 => some k5.fn
  | 6 => some k6.fn
  | 7 => some k7.fn
  | 8 => some k8.fn
  | 9 => some k9.fn
  | 10 => some k10.fn
  | 11 => some k11.fn
  | 12 => some k12.fn
  | 13 => some k13.fn
  | 14 => some k14.fn
  | 15 => some k15.fn
  | 16 => some k16.fn
  | 17 => some k17.fn
  | 18 => some k18.fn
  | 19 => some k19.fn
  | 20 => some k20.fn
  | 21 => some k21.fn
  | 22 => some k22.fn
  | 23 => some k23.fn
  | 24 => some k24.fn
  | 25 => some k25.fn
  | 26 => some k26.fn
  | 27 => some k27.fn
  | 28 => some k28.fn
  | 29 => some k29.fn
  | 30 => some k30.fn
  | 31 => some k31.fn
  | 32 => some k32.fn
  | 33 => some k33.fn
  | 34 => some k34.fn
  | 35 => some k35.fn
  | 36 => some k36.fn
  | 37 => some k37.fn
  | 38 => some k38.fn
  | 39 => some k39.fn
  | 40 => some k40.fn
  | 41 => some k41.fn
  | 43 => some k43.fn
  | 44 => some k44.fn
  | 45 => some k45.fn
  | 46 => some k46.fn
  | 48 => some k48.fn
  | 49 => some k49.fn
  | 52 => some k52.fn
  | 53 => some k53.fn
  | 57 => some k57.fn
  | 58 => some k58.fn
  | 59 => some k59.fn
  | 60 => some k60.fn
  | 63 => some k63.fn
  | 69 => some k69.fn
  | 70 => some k70.fn
  | 71 => some k71.fn
  | 72 => some k72.fn
  | 82 => some k82.fn
  | 83 => some k83.fn
  | 90 => some k90.fn
  | 91 => some k91.fn
  | 92 => some k92.fn
  | 95 => some k95.fn
  | 96 => some k96.fn
  | 97 => some k97.fn
  | 98 => some k98.fn
  | _ => none
theorem tabOk : TabOk Tryd.prog nm tab := by
  refine ⟨by kernel_rfl, ?_⟩
  intro f fn fid h hn
  simp only [nm, Option.some.injEq] at hn
  subst hn
  unfold tab at h
  split at h
  · cases h; exact ⟨Tryd.f3, hint3, true, Tryd.func3, by kernel_rfl, link3⟩
  · cases h; exact ⟨Tryd.f4, hint4, true, Tryd.func4, by kernel_rfl, link4⟩
  · cases h; exact ⟨Tryd.f5, hint5, true, Tryd.func5, by kernel_rfl, link5⟩
  · cases h; exact ⟨Tryd.f6, hint6, true, Tryd.func6, by kernel_rfl, link6⟩
  · cases h; exact ⟨Tryd.f7, hint7, true, Tryd.func7, by kernel_rfl, link7⟩
  · cases h; exact ⟨Tryd.f8, hint8, true, Tryd.func8, by kernel_rfl, link8⟩
  · cases h; exact ⟨Tryd.f9, hint9, true, Tryd.func9, by kernel_rfl, link9⟩
  · cases h; exact ⟨Tryd.f10, hint10, true, Tryd.func10, by kernel_rfl, link10⟩
  · cases h; exact ⟨Tryd.f11, hint11, true, Tryd.func11, by kernel_rfl, link11⟩
  · cases h; exact ⟨Tryd.f12, hint12, true, Tryd.func12, by kernel_rfl, link12⟩
  · cases h; exact ⟨Tryd.f13, hint13, true, Tryd.func13, by kernel_rfl, link13⟩
  · cases h; exact ⟨Tryd.f14, hint14, true, Tryd.func14, by kernel_rfl, link14⟩
  · cases h; exact ⟨Tryd.f15, hint15, true, Tryd.func15, by kernel_rfl, link15⟩
  · cases h; exact ⟨Tryd.f16, hint16, true, Tryd.func16, by kernel_rfl, link16⟩
  · cases h; exact ⟨Tryd.f17, hint17, true, Tryd.func17, by kernel_rfl, link17⟩
  · cases h; exact ⟨Tryd.f18, hint18, true, Tryd.func18, by kernel_rfl, link18⟩
  · cases h; exact ⟨Tryd.f19, hint19, true, Tryd.func19, by kernel_rfl, link19⟩
  · cases h; exact ⟨Tryd.f20, hint20, true, Tryd.func20, by kernel_rfl, link20⟩
  · cases h; exact ⟨Tryd.f21, hint21, true, Tryd.func21, by kernel_rfl, link21⟩
  · cases h; exact ⟨Tryd.f22, hint22, true, Tryd.func22, by kernel_rfl, link22⟩
  · cases h; exact ⟨Tryd.f23, hint23, true, Tryd.func23, by kernel_rfl, link23⟩
  · cases h; exact ⟨Tryd.f24, hint24, true, Tryd.func24, by kernel_rfl, link24⟩
  · cases h; exact ⟨Tryd.f25, hint25, true, Tryd.func25, by kernel_rfl, link25⟩
  · cases h; exact ⟨Tryd.f26, hint26, true, Tryd.func26, by kernel_rfl, link26⟩
  · cases h; exact ⟨Tryd.f27, hint27, true, Tryd.func27, by kernel_rfl, link27⟩
  · cases h; exact ⟨Tryd.f28, hint28, true, Tryd.func28, by kernel_rfl, link28⟩
  · cases h; exact ⟨Tryd.f29, hint29, true, Tryd.func29, by kernel_rfl, link29⟩
  · cases h; exact ⟨Tryd.f30, hint30, true, Tryd.func30, by kernel_rfl, link30⟩
  · cases h; exact ⟨Tryd.f31, hint31, true, Tryd.func31, by kernel_rfl, link31⟩
  · cases h; exact ⟨Tryd.f32, hint32, true, Tryd.func32, by kernel_rfl, link32⟩
  · cases h; exact ⟨Tryd.f33, hint33, true, Tryd.func33, by kernel_rfl, link33⟩
  · cases h; exact ⟨Tryd.f34, hint34, true, Tryd.func34, by kernel_rfl, link34⟩
  · cases h; exact ⟨Tryd.f35, hint35, true, Tryd.func35, by kernel_rfl, link35⟩
  · cases h; exact ⟨Tryd.f36, hint36, true, Tryd.func36, by kernel_rfl, link36⟩
  · cases h; exact ⟨Tryd.f37, hint37, true, Tryd.func37, by kernel_rfl, link37⟩
  · cases h; exact ⟨Tryd.f38, hint38, true, Tryd.func38, by kernel_rfl, link38⟩
  · cases h; exact ⟨Tryd.f39, hint39, true, Tryd.func39, by kernel_rfl, link39⟩
  · cases h; exact ⟨Tryd.f40, hint40, true, Tryd.func40, by kernel_rfl, link40⟩
  · cases h; exact ⟨Tryd.f41, hint41, true, Tryd.func41, by kernel_rfl, link41⟩
  · cases h; exact ⟨Tryd.f43, hint43, true, Tryd.func43, by kernel_rfl, link43⟩
  · cases h; exact ⟨Tryd.f44, hint44, true, Tryd.func44, by kernel_rfl, link44⟩
  · cases h; exact ⟨Tryd.f45, hint45, true, Tryd.func45, by kernel_rfl, link45⟩
  · cases h; exact ⟨Tryd.f46, hint46, true, Tryd.func46, by kernel_rfl, link46⟩
  · cases h; exact ⟨Tryd.f48, hint48, true, Tryd.func48, by kernel_rfl, link48⟩
  · cases h; exact ⟨Tryd.f49, hint49, true, Tryd.func49, by kernel_rfl, link49⟩
  · cases h; exact ⟨Tryd.f52, hint52, true, Tryd.func52, by kernel_rfl, link52⟩
  · cases h; exact ⟨Tryd.f53, hint53, true, Tryd.func53, by kernel_rfl, link53⟩
  · cases h; exact ⟨Tryd.f57, hint57, true, Tryd.func57, by kernel_rfl, link57⟩
  · cases h; exact ⟨Tryd.f58, hint58, true, Tryd.func58, by kernel_rfl, link58⟩
  · cases h; exact ⟨Tryd.f59, hint59, true, Tryd.func59, by kernel_rfl, link59⟩
  · cases h; exact ⟨Tryd.f60, hint60, true, Tryd.func60, by kernel_rfl, link60⟩
  · cases h; exact ⟨Tryd.f63, hint63, true, Tryd.func63, by kernel_rfl, link63⟩
  · cases h; exact ⟨Tryd.f69, hint69, true, Tryd.func69, by kernel_rfl, link69⟩
  · cases h; exact ⟨Tryd.f70, hint70, true, Tryd.func70, by kernel_rfl, link70⟩
  · cases h; exact ⟨Tryd.f71, hint71, true, Tryd.func71, by kernel_rfl, link71⟩
  · cases h; exact ⟨Tryd.f72, hint72, true, Tryd.func72, by kernel_rfl, link72⟩
  · cases h; exact ⟨Tryd.f82, hint82, true, Tryd.func82, by kernel_rfl, link82⟩
  · cases h; exact ⟨Tryd.f83, hint83, true, Tryd.func83, by kernel_rfl, link83⟩
  · cases h; exact ⟨Tryd.f90, hint90, true, Tryd.func90, by kernel_rfl, link90⟩
  · cases h; exact ⟨Tryd.f91, hint91, true, Tryd.func91, by kernel_rfl, link91⟩
  · cases h; exact ⟨Tryd.f92, hint92, true, Tryd.func92, by kernel_rfl, link92⟩
  · cases h; exact ⟨Tryd.f95, hint95, true, Tryd.func95, by kernel_rfl, link95⟩
  · cases h; exact ⟨Tryd.f96, hint96, true, Tryd.func96, by kernel_rfl, link96⟩
  · cases h; exact ⟨Tryd.f97, hint97, true, Tryd.func97, by kernel_rfl, link97⟩
  · cases h; exact ⟨Tryd.f98, hint98, true, Tryd.func98, by kernel_rfl, link98⟩
  · cases h
end Go.Proofs.YtgokmelgnmejlaaDoor
