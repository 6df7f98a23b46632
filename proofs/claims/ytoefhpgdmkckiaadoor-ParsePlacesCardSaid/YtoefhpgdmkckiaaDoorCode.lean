/- The functions that the law reaches as the evaluator takes them, and what they come to: printed by program. -/
import Derived.Test.YtoefhpgdmkckiaaDoorChecked
import Derived.KernelRfl
import Derived.Test.YtoefhpgdmkckiaaDoorAbs9
import Derived.Test.YtoefhpgdmkckiaaDoorAbs3
/- The seat's functions as the evaluator takes them: printed by program. -/
set_option maxRecDepth 100000
set_option linter.unusedVariables false
namespace Go.Proofs.YtoefhpgdmkckiaaDoor
open Go Go.Abs
def nm : FuncId → Option Nat := some
def imB (n c : Nat) : Bool := (Nat.beq n 8 && Nat.beq c 0)
def noB (n : Nat) : Bool := (lkN [(46, true), (47, true), (48, true), (49, true)] n).isSome
def resT : Nat → Option RS := lkN [
  (3, (.val (.one (.bool)) [])),
  (4, (.val (.one (.bool)) [])),
  (5, (.val (.one (.str)) [])),
  (6, (.tup [(.agg [.im 3, .im 2, .im 4]), (.one (.int .i64)), (.one (.int .i64))] [])),
  (7, (.tup [(.one (.im 3)), (.one (.int .i64)), (.one (.int .i64))] [])),
  (8, (.val (.one (.bool)) [])),
  (9, (.val (.one (.bool)) [])),
  (10, (.val (.agg [.str, .im 1, .im 3]) [])),
  (11, (.val (.agg [.str, .im 3]) [])),
  (12, (.val (.agg [.str, .im 3, .im 6, .im 10]) [])),
  (13, (.tup [] [])),
  (14, (.val (.one (.bool)) [])),
  (15, (.val (.one (.bool)) [])),
  (16, (.val (.one (.bool)) [])),
  (17, (.val (.one (.int .i64)) [])),
  (18, (.val (.one (.bool)) [])),
  (19, (.val (.one (.bool)) [])),
  (20, (.val (.one (.bool)) [])),
  (21, (.val (.one (.bool)) [])),
  (22, (.tup [(.one (.str)), (.one (.int .i64)), (.one (.bool))] [])),
  (23, (.val (.one (.str)) [])),
  (24, (.val (.one (.bool)) [])),
  (25, (.val (.one (.str)) [])),
  (26, (.tup [] [])),
  (27, (.val (.one (.int .i64)) [])),
  (28, (.val (.one (.im 4)) [])),
  (29, (.val (.agg [.int .i64, .str]) [])),
  (30, (.val (.one (.int .i64)) [])),
  (31, (.val (.one (.bool)) [])),
  (32, (.tup [(.one (.int .i64)), .ifc] [])),
  (33, (.val (.one (.int .u8)) [])),
  (34, (.val (.one (.bool)) [])),
  (35, (.val (.one (.int .u8)) [])),
  (36, (.val (.one (.bool)) [])),
  (37, (.tup [(.one (.int .i64)), .ifc] [])),
  (38, (.tup [] [])),
  (39, (.tup [(.one (.int .i64)), .ifc] [])),
  (40, (.val .ifc [])),
  (41, (.val (.one (.bool)) [])),
  (42, (.tup [(.one (.int .i64)), .ifc] [])),
  (43, (.val (.one (.bool)) [])),
  (44, (.tup [] [])),
  (45, (.tup [(.one (.int .u64)), .ifc] [])),
  (50, (.val (.one (.bool)) [])),
  (51, (.val (.one (.bool)) [])),
  (52, (.val (.one (.int .i64)) [])),
  (53, (.val (.one (.im 1)) [])),
  (54, (.val (.one (.im 3)) [])),
  (55, (.val (.agg [.str, .str, .int .i64]) [])),
  (56, (.val (.one (.int .u8)) [])),
  (57, (.val (.one (.bool)) [])),
  (58, (.val (.one (.str)) [])),
  (59, (.val .ifc [])),
  (60, (.val (.one (.str)) [])),
  (61, (.val (.one (.int .i64)) [])),
  (62, (.val (.one (.int .i64)) [])),
  (63, (.val (.one (.str)) [])),
  (64, (.val (.agg [.int .i64, .str, .int .i64, .str, .int .i64, .int .i64]) [])),
  (65, (.val (.one (.int .i64)) [])),
  (66, (.val (.one (.int .i64)) [])),
  (67, (.val (.one (.str)) [])),
  (68, (.val (.one (.int .i64)) [])),
  (69, (.val (.one (.str)) [])),
  (70, (.val (.one (.int .i64)) [])),
  (71, (.tup [] [])),
  (72, (.tup [(.one (.im 1)), (.one (.str))] [])),
  (73, (.val (.one (.int .i64)) [])),
  (74, (.val (.one (.int .i64)) [])),
  (75, (.val (.one (.int .i64)) [])),
  (76, (.val (.one (.int .i64)) [])),
  (77, (.val (.one (.bool)) [])),
  (78, (.val (.one (.int .i64)) [])),
  (79, (.val (.one (.int .i64)) [])),
  (80, (.val (.one (.int .i64)) [])),
  (81, (.val (.one (.int .i64)) [])),
  (82, (.val (.one (.int .i64)) []))]
def hint3 : Hint := ⟨80, 13, [], [], [(0, (some [1, 0]), false), (1, (some [1, 0]), false), (2, (some []), false), (3, (some [1, 0]), false), (4, (some [5, 1]), false), (5, (some [5, 6]), false), (6, (some [7, 5, 6]), false), (7, (some [5, 6, 8, 7]), true), (9, (some [5, 6, 8, 7]), false), (8, (some [7, 5, 6, 8]), false), (10, (some [5, 7, 6]), false), (11, (some [5, 7, 6, 9]), false), (12, (some [5, 10, 12, 7, 11, 6]), false), (13, (some [5, 10, 12]), false), (14, (some [10, 7, 11, 12]), false)]⟩
def k3_c0 : KCode := (.seq (.reg (some [5, 7, 6]) false [
  oO 33 (.mov (.s 7)),
  oO 34 (.mov (.s 6)),
  oO 35 (.call (.f 5) [(false, (.s 34))]),
  oO 36 (.bin .other .add (.s 33) (.s 35)),
  oO 37 (.bin .other .add (.s 36) (.c (.one (.d (.str [58, 32, 101, 110, 100, 32, 125, 32, 112, 114, 111, 99, 32, 109, 97, 105, 110, 40, 41, 32, 123, 32, 115, 116, 111, 112, 32, 125]))))),
  oO 9 (.mov (.s 37))] none) (.seq (.reg (some [5, 7, 6, 9]) false [
  oO 39 (.mov (.s 9)),
  oO 40 (.call (.f 6) [(false, (.s 39))]),
  oO 38 (.mov (.s 40)),
  oO 41 (.extract 0 (.s 38)),
  oO 42 (.extract 1 (.s 38)),
  oO 43 (.extract 2 (.s 38)),
  oO 10 (.alloc [(.d (.sl (.im true) 3 [])), (.d (.sl (.im true) 2 [])), (.d (.sl (.im true) 4 []))]),
  oN (.store false 3 (.s 10) (.t 41)),
  oO 11 (.mov (.s 42)),
  oO 12 (.mov (.s 43))] none) (.seq (.seq (.reg (some [5, 10, 12, 7, 11, 6]) false [
  oO 44 (.mov (.s 6)),
  oO 45 (.mov (.s 5)),
  oO 46 (.bin .other .eql (.s 44) (.s 45))] none) (.cond (.s 46) (.seq (.reg (some [5, 10, 12]) false [
  oO 47 (.mov (.s 12)),
  oO 48 (.bin .other .eql (.s 47) (.c (.one (.d (.int .i64 0))))),
  oO 49 (.mov (.s 48)),
  oT 50 49 (.fieldA 0 (.s 10)),
  oT 51 49 (.load 1 false (.s 50)),
  oT 52 49 (.len false (.s 51)),
  oT 53 49 (.bin .other .eql (.s 52) (.c (.one (.d (.int .i64 1))))),
  oO 54 (.pick (.s 49) (.s 53) (.c (.one (.d (.bool false))))),
  oO 55 (.mov (.s 54)),
  oT 56 55 (.fieldA 0 (.s 10)),
  oT 57 55 (.load 1 false (.s 56)),
  oT 58 55 (.indexA 3 (.s 57) (.c (.one (.d (.int .i64 0))))),
  oT 59 55 (.fieldA 2 (.s 58)),
  oT 60 55 (.load 1 false (.s 59)),
  oT 61 55 (.len false (.s 60)),
  oT 62 55 (.mov (.s 5)),
  oT 63 55 (.bin .other .add (.s 62) (.c (.one (.d (.int .i64 1))))),
  oT 64 55 (.bin .other .eql (.s 61) (.s 63)),
  oO 65 (.pick (.s 55) (.s 64) (.c (.one (.d (.bool false))))),
  oO 4 (.mov (.s 65))] none) .ret) .skip)) (.seq (.reg (some [10, 7, 11, 12]) false [
  oO 66 (.mov (.s 12)),
  oO 67 (.bin .other .eql (.s 66) (.c (.one (.d (.int .i64 1701))))),
  oO 68 (.mov (.s 67)),
  oT 69 68 (.mov (.s 11)),
  oT 70 68 (.mov (.s 7)),
  oT 71 68 (.len true (.s 70)),
  oT 72 68 (.bin .other .eql (.s 69) (.s 71)),
  oO 73 (.pick (.s 68) (.s 72) (.c (.one (.d (.bool false))))),
  oO 74 (.mov (.s 73)),
  oT 75 74 (.fieldA 2 (.s 10)),
  oT 76 74 (.load 1 false (.s 75)),
  oT 77 74 (.len false (.s 76)),
  oT 78 74 (.bin .other .eql (.s 77) (.c (.one (.d (.int .i64 0))))),
  oO 79 (.pick (.s 74) (.s 78) (.c (.one (.d (.bool false))))),
  oO 4 (.mov (.s 79))] none) .ret))))
def k3_b0 : KCode := (.seq (.seq (.reg none false [
  oO 23 (.mov (.s 8)),
  oO 24 (.mov (.s 5)),
  oO 25 (.bin .other .lss (.s 23) (.s 24))] none) (.cond (.s 25) .skip (.exit 0))) (.seq (.block 1 (.reg (some [5, 6, 8, 7]) false [
  oO 28 (.mov (.s 7)),
  oO 29 (.mov (.s 8)),
  oO 30 (.call (.f 5) [(false, (.s 29))]),
  oO 31 (.bin .other .add (.s 28) (.s 30)),
  oO 32 (.bin .other .add (.s 31) (.c (.one (.d (.str [58, 32, 101, 110, 100, 32]))))),
  oO 7 (.mov (.s 32))] none)) (.reg (some [7, 5, 6, 8]) false [
  oO 26 (.mov (.s 8)),
  oO 27 (.bin .other .add (.s 26) (.c (.one (.d (.int .i64 1))))),
  oO 8 (.mov (.s 27))] none)))
def k3 : KFunc := ⟨80, [.slot 4], (.seq (.reg (some [1, 0]) false [
  oO 4 (.mov (.c (.one (.d (.bool false)))))] none) (.seq (.seq (.reg (some [1, 0]) false [
  oO 13 (.call (.f 4) []),
  oO 14 (.un .not (.s 13))] none) (.cond (.s 14) (.seq (.reg (some []) false [
  oO 4 (.mov (.c (.one (.d (.bool false)))))] none) .ret) .skip)) (.seq (.reg (some [1, 0]) false [
  oO 15 (.mov (.s 0)),
  oO 16 (.conv (.int .u64) (.s 15)),
  oO 17 (.bin .other .rem (.s 16) (.c (.one (.d (.int .u64 12))))),
  oO 18 (.conv (.int .i64) (.s 17)),
  oO 5 (.mov (.s 18))] none) (.seq (.reg (some [5, 1]) false [
  oO 19 (.mov (.s 1)),
  oO 20 (.conv (.int .u64) (.s 19)),
  oO 21 (.bin .other .rem (.s 20) (.c (.one (.d (.int .u64 1000))))),
  oO 22 (.conv (.int .i64) (.s 21)),
  oO 6 (.mov (.s 22))] none) (.seq (.reg (some [5, 6]) false [
  oO 7 (.mov (.c (.one (.d (.str [112, 114, 111, 116, 111, 99, 111, 108, 32, 112, 32, 114, 111, 108, 101, 115, 32, 97, 44, 32, 98, 32, 123, 32])))))] none) (.seq (.seq (.reg (some [7, 5, 6]) false [
  oO 8 (.mov (.c (.one (.d (.int .i64 0)))))] none) (.block 0 (.loop 0 (some [5, 6, 8, 7]) true k3_b0))) k3_c0)))))), true⟩
def an3 : Ann := ⟨lkN [(10, [.im 3, .im 2, .im 4]), (51, [.im 3]), (57, [.im 3]), (60, [.im 3]), (76, [.im 4])], resT, imB, noB⟩
def h3_0 (Cl : Oracle) (n : Nat) (bx : List (List C)) (m0 : Nat) (S : Go.Abs.St) : Option (V × List (List C)) := iterK 0 (evCA an3 Cl n k3_b0) (some [5, 6, 8, 7]) true m0 S (blockK 0 (seqK (evCA an3 Cl n k3_c0) (retK [.slot 4] true bx)))
def hint4 : Hint := ⟨65, 7, [], [], [(0, (some []), false), (1, (some []), false), (2, (some [1, 2, 3]), false), (3, (some [5, 6, 1, 2, 3]), false)]⟩
def k4 : KFunc := ⟨65, [.slot 0], (.seq (.reg (some []) false [
  oO 0 (.mov (.c (.one (.d (.bool false)))))] none) (.seq (.reg (some []) false [
  oO 8 (.call (.f 6) [(false, (.c (.one (.d (.str [112, 114, 111, 99, 32, 109, 97, 105, 110, 40, 41, 32, 123, 32, 115, 116, 111, 112, 32, 125])))))]),
  oO 7 (.mov (.s 8)),
  oO 9 (.extract 0 (.s 7)),
  oO 10 (.extract 1 (.s 7)),
  oO 11 (.extract 2 (.s 7)),
  oO 1 (.alloc [(.d (.sl (.im true) 3 [])), (.d (.sl (.im true) 2 [])), (.d (.sl (.im true) 4 []))]),
  oN (.store false 3 (.s 1) (.t 9)),
  oO 2 (.mov (.s 10)),
  oO 3 (.mov (.s 11))] none) (.seq (.reg (some [1, 2, 3]) false [
  oO 13 (.call (.f 6) [(false, (.c (.one (.d (.str [112, 114, 111, 99, 32, 109, 97, 105, 110, 40, 32, 123, 32, 115, 116, 111, 112, 32, 125])))))]),
  oO 12 (.mov (.s 13)),
  oO 14 (.extract 0 (.s 12)),
  oO 15 (.extract 1 (.s 12)),
  oO 16 (.extract 2 (.s 12)),
  oO 4 (.alloc [(.d (.sl (.im true) 3 [])), (.d (.sl (.im true) 2 [])), (.d (.sl (.im true) 4 []))]),
  oN (.store false 3 (.s 4) (.t 14)),
  oO 5 (.mov (.s 15)),
  oO 6 (.mov (.s 16))] none) (.seq (.reg (some [5, 6, 1, 2, 3]) false [
  oO 17 (.mov (.s 3)),
  oO 18 (.bin .other .eql (.s 17) (.c (.one (.d (.int .i64 0))))),
  oO 19 (.mov (.s 18)),
  oT 20 19 (.mov (.s 2)),
  oT 21 19 (.bin .other .eql (.s 20) (.c (.one (.d (.int .i64 0))))),
  oO 22 (.pick (.s 19) (.s 21) (.c (.one (.d (.bool false))))),
  oO 23 (.mov (.s 22)),
  oT 24 23 (.fieldA 2 (.s 1)),
  oT 25 23 (.load 1 false (.s 24)),
  oT 26 23 (.len false (.s 25)),
  oT 27 23 (.bin .other .eql (.s 26) (.c (.one (.d (.int .i64 1))))),
  oO 28 (.pick (.s 23) (.s 27) (.c (.one (.d (.bool false))))),
  oO 29 (.mov (.s 28)),
  oT 30 29 (.fieldA 2 (.s 1)),
  oT 31 29 (.load 1 false (.s 30)),
  oT 32 29 (.indexA 4 (.s 31) (.c (.one (.d (.int .i64 0))))),
  oT 33 29 (.fieldA 0 (.s 32)),
  oT 34 29 (.load 1 false (.s 33)),
  oT 35 29 (.bin .other .eql (.s 34) (.c (.one (.d (.str [109, 97, 105, 110]))))),
  oO 36 (.pick (.s 29) (.s 35) (.c (.one (.d (.bool false))))),
  oO 37 (.mov (.s 36)),
  oT 38 37 (.fieldA 2 (.s 1)),
  oT 39 37 (.load 1 false (.s 38)),
  oT 40 37 (.indexA 4 (.s 39) (.c (.one (.d (.int .i64 0))))),
  oT 41 37 (.fieldA 3 (.s 40)),
  oT 42 37 (.load 1 false (.s 41)),
  oT 43 37 (.len false (.s 42)),
  oT 44 37 (.bin .other .eql (.s 43) (.c (.one (.d (.int .i64 1))))),
  oO 45 (.pick (.s 37) (.s 44) (.c (.one (.d (.bool false))))),
  oO 46 (.mov (.s 45)),
  oT 47 46 (.fieldA 2 (.s 1)),
  oT 48 46 (.load 1 false (.s 47)),
  oT 49 46 (.indexA 4 (.s 48) (.c (.one (.d (.int .i64 0))))),
  oT 50 46 (.fieldA 3 (.s 49)),
  oT 51 46 (.load 1 false (.s 50)),
  oT 52 46 (.indexA 10 (.s 51) (.c (.one (.d (.int .i64 0))))),
  oT 53 46 (.fieldA 0 (.s 52)),
  oT 54 46 (.load 1 false (.s 53)),
  oT 55 46 (.bin .other .eql (.s 54) (.c (.one (.d (.int .i64 0))))),
  oO 56 (.pick (.s 46) (.s 55) (.c (.one (.d (.bool false))))),
  oO 57 (.mov (.s 56)),
  oT 58 57 (.mov (.s 6)),
  oT 59 57 (.bin .other .eql (.s 58) (.c (.one (.d (.int .i64 1701))))),
  oO 60 (.pick (.s 57) (.s 59) (.c (.one (.d (.bool false))))),
  oO 61 (.mov (.s 60)),
  oT 62 61 (.mov (.s 5)),
  oT 63 61 (.bin .other .eql (.s 62) (.c (.one (.d (.int .i64 11))))),
  oO 64 (.pick (.s 61) (.s 63) (.c (.one (.d (.bool false))))),
  oO 0 (.mov (.s 64))] none) .ret)))), true⟩
def an4 : Ann := ⟨lkN [(1, [.im 3, .im 2, .im 4]), (4, [.im 3, .im 2, .im 4]), (25, [.im 4]), (31, [.im 4]), (34, [.str]), (39, [.im 4]), (42, [.im 10]), (48, [.im 4]), (51, [.im 10]), (54, [.int .i64])], resT, imB, noB⟩
def hint5 : Hint := ⟨23, 4, [], [], [(0, (some [0]), false), (1, (some [0]), false), (2, (some [0, 3]), true), (3, (some [0, 3]), false), (4, (some [3, 0]), false), (5, (some [3, 0]), false)]⟩
def k5_c0 : KCode := (.seq (.reg (some [3, 0]) false [
  oO 16 (.mov (.s 0)),
  oO 17 (.bin .other .add (.c (.one (.d (.int .i64 48)))) (.s 16)),
  oO 18 (.conv (.int .u8) (.s 17)),
  oO 19 (.bslice 1 [[(.int .u8 0)]] [(0, (.s 18))]),
  oO 20 (.conv .bytesStr (.s 19)),
  oO 21 (.mov (.s 3)),
  oO 22 (.bin .other .add (.s 20) (.s 21)),
  oO 2 (.mov (.s 22))] none) .ret)
def k5_b0 : KCode := (.seq (.seq (.reg none false [
  oO 4 (.mov (.s 0)),
  oO 5 (.bin .other .gtr (.s 4) (.c (.one (.d (.int .i64 9)))))] none) (.cond (.s 5) .skip (.exit 0))) (.block 1 (.seq (.reg (some [0, 3]) false [
  oO 6 (.mov (.s 0)),
  oO 7 (.bin .other .rem (.s 6) (.c (.one (.d (.int .i64 10))))),
  oO 8 (.bin .other .add (.c (.one (.d (.int .i64 48)))) (.s 7)),
  oO 9 (.conv (.int .u8) (.s 8)),
  oO 10 (.bslice 1 [[(.int .u8 0)]] [(0, (.s 9))]),
  oO 11 (.conv .bytesStr (.s 10)),
  oO 12 (.mov (.s 3)),
  oO 13 (.bin .other .add (.s 11) (.s 12)),
  oO 3 (.mov (.s 13))] none) (.reg (some [3, 0]) false [
  oO 14 (.mov (.s 0)),
  oO 15 (.bin .other .quo (.s 14) (.c (.one (.d (.int .i64 10))))),
  oO 0 (.mov (.s 15))] none))))
def k5 : KFunc := ⟨23, [.slot 2], (.seq (.reg (some [0]) false [
  oO 2 (.mov (.c (.one (.d (.str [])))))] none) (.seq (.reg (some [0]) false [
  oO 3 (.mov (.c (.one (.d (.str [])))))] none) (.seq (.block 0 (.loop 0 (some [0, 3]) true k5_b0)) k5_c0))), true⟩
def an5 : Ann := ⟨lkN [], resT, imB, noB⟩
def h5_0 (Cl : Oracle) (n : Nat) (bx : List (List C)) (m0 : Nat) (S : Go.Abs.St) : Option (V × List (List C)) := iterK 0 (evCA an5 Cl n k5_b0) (some [0, 3]) true m0 S (blockK 0 (seqK (evCA an5 Cl n k5_c0) (retK [.slot 2] true bx)))
def hint6 : Hint := ⟨81, 10, [2], [], [(0, (some [0]), false), (1, (some [2, 0]), false), (2, (some [2, 6, 0, 5, 7]), false), (3, (some [2, 6]), false), (4, (some [2, 0, 5]), false), (5, (some [8, 2]), false), (6, (some [9, 8, 2]), true), (8, (some [9, 8, 2]), false), (9, (some [9, 8, 2]), false), (10, (some [9, 8, 2]), false), (11, (some [9, 8, 2]), false), (12, (some [9, 8, 2]), false), (13, (some [9, 8, 2]), false), (7, (some [9, 8, 2]), false), (14, (some [2, 8, 9]), false), (15, (some [2, 8]), false), (16, (some [2, 9]), false)]⟩
def k6_c0 : KCode := (.seq (.seq (.reg (some [2, 8, 9]) false [
  oO 70 (.mov (.s 8)),
  oO 71 (.nilck (.s 70)),
  oO 72 (.fieldA 0 (.s 71)),
  oO 73 (.call (.f 14) [(false, (.t 72))])] none) (.cond (.s 73) (.seq (.reg (some [2, 8]) false [
  oO 74 (.build [(.d (.sl (.im true) 3 [])), (.d (.sl (.im true) 2 [])), (.d (.sl (.im true) 4 []))] []),
  oO 75 (.mov (.s 8)),
  oO 76 (.nilck (.s 75)),
  oO 77 (.fieldA 0 (.s 76)),
  oO 78 (.fieldA 3 (.s 77)),
  oO 79 (.load 1 false (.s 78)),
  oN (.store true 3 (.s 2) (.t 74)),
  oO 3 (.mov (.s 79)),
  oO 4 (.mov (.c (.one (.d (.int .i64 1701)))))] (some [(0, 1), (0, 2), (0, 3), (0, 4), (0, 5), (1, 6), (2, 6), (3, 6), (4, 6), (5, 6)])) .ret) .skip)) (.seq (.reg (some [2, 9]) false [
  oO 80 (.load 3 true (.s 9)),
  oN (.store true 3 (.s 2) (.t 80)),
  oO 3 (.mov (.c (.one (.d (.int .i64 0))))),
  oO 4 (.mov (.c (.one (.d (.int .i64 0)))))] none) .ret))
def k6_b0 : KCode := (.seq (.seq (.reg none false [
  oO 26 (.mov (.s 8)),
  oO 27 (.nilck (.s 26)),
  oO 28 (.fieldA 0 (.s 27)),
  oO 29 (.call (.f 8) [(false, (.t 28))])] none) (.cond (.s 29) .skip (.exit 0))) (.block 1 (.block 2 (.seq (.reg (some [9, 8, 2]) false [
  oO 35 (.mov (.s 8)),
  oO 36 (.nilck (.s 35)),
  oO 37 (.fieldA 0 (.s 36)),
  oO 38 (.call (.f 9) [(false, (.t 37)), (false, (.c (.one (.d (.str [112, 114, 111, 116, 111, 99, 111, 108])))))]),
  oO 34 (.mov (.s 38))] none) (.cond (.s 34) (.reg (some [9, 8, 2]) false [
  oO 39 (.fieldA 0 (.s 9)),
  oO 40 (.load 1 false (.s 39)),
  oO 41 (.mov (.s 8)),
  oO 42 (.call (.f 10) [(false, (.s 41))]),
  oO 43 (.bslice 3 [[(.str []), (.sl (.im true) 1 []), (.sl (.im true) 3 [])]] [(0, (.t 42))]),
  oO 44 (.app 3 64 (.t 40) (.t 43)),
  oO 45 (.fieldA 0 (.s 9)),
  oN (.store false 1 (.s 45) (.t 44))] (some [(0, 2), (1, 2), (0, 3), (1, 3), (0, 4), (1, 4)])) (.seq (.reg (some [9, 8, 2]) false [
  oO 47 (.mov (.s 8)),
  oO 48 (.nilck (.s 47)),
  oO 49 (.fieldA 0 (.s 48)),
  oO 50 (.call (.f 9) [(false, (.t 49)), (false, (.c (.one (.d (.str [108, 111, 99, 97, 108])))))]),
  oO 46 (.mov (.s 50))] none) (.cond (.s 46) (.reg (some [9, 8, 2]) false [
  oO 51 (.fieldA 1 (.s 9)),
  oO 52 (.load 1 false (.s 51)),
  oO 53 (.mov (.s 8)),
  oO 54 (.call (.f 11) [(false, (.s 53))]),
  oO 55 (.bslice 2 [[(.str []), (.sl (.im true) 3 [])]] [(0, (.t 54))]),
  oO 56 (.app 2 40 (.t 52) (.t 55)),
  oO 57 (.fieldA 1 (.s 9)),
  oN (.store false 1 (.s 57) (.t 56))] (some [(0, 2), (1, 2), (0, 3), (1, 3), (0, 4), (1, 4)])) (.seq (.reg (some [9, 8, 2]) false [
  oO 59 (.mov (.s 8)),
  oO 60 (.nilck (.s 59)),
  oO 61 (.fieldA 0 (.s 60)),
  oO 62 (.call (.f 9) [(false, (.t 61)), (false, (.c (.one (.d (.str [112, 114, 111, 99])))))]),
  oO 58 (.mov (.s 62))] none) (.cond (.s 58) (.reg (some [9, 8, 2]) false [
  oO 63 (.fieldA 2 (.s 9)),
  oO 64 (.load 1 false (.s 63)),
  oO 65 (.mov (.s 8)),
  oO 66 (.call (.f 12) [(false, (.s 65))]),
  oO 67 (.bslice 4 [[(.str []), (.sl (.im true) 3 []), (.sl (.im true) 6 []), (.sl (.im true) 10 [])]] [(0, (.t 66))]),
  oO 68 (.app 4 88 (.t 64) (.t 67)),
  oO 69 (.fieldA 2 (.s 9)),
  oN (.store false 1 (.s 69) (.t 68))] (some [(0, 2), (1, 2), (0, 3), (1, 3), (0, 4), (1, 4)])) (.reg (some [9, 8, 2]) false [
  oO 30 (.mov (.s 8)),
  oO 31 (.nilck (.s 30)),
  oO 32 (.fieldA 0 (.s 31)),
  oO 33 (.call (.f 13) [(false, (.t 32))])] none))))))))))
def k6 : KFunc := ⟨81, [.cell 2 3 true, .slot 3, .slot 4], (.seq (.reg (some [0]) false [
  oO 2 (.alloc [(.d (.sl (.im true) 3 [])), (.d (.sl (.im true) 2 [])), (.d (.sl (.im true) 4 []))]),
  oO 3 (.mov (.c (.one (.d (.int .i64 0))))),
  oO 4 (.mov (.c (.one (.d (.int .i64 0)))))] none) (.seq (.reg (some [2, 0]) false [
  oO 11 (.mov (.s 0)),
  oO 12 (.call (.f 7) [(false, (.s 11))]),
  oO 10 (.mov (.s 12)),
  oO 13 (.extract 0 (.s 10)),
  oO 14 (.extract 1 (.s 10)),
  oO 15 (.extract 2 (.s 10)),
  oO 5 (.mov (.t 13)),
  oO 6 (.mov (.s 14)),
  oO 7 (.mov (.s 15))] none) (.seq (.seq (.reg (some [2, 6, 0, 5, 7]) false [
  oO 16 (.mov (.s 7)),
  oO 17 (.bin .other .neq (.s 16) (.c (.one (.d (.int .i64 0)))))] none) (.cond (.s 17) (.seq (.reg (some [2, 6]) false [
  oO 18 (.build [(.d (.sl (.im true) 3 [])), (.d (.sl (.im true) 2 [])), (.d (.sl (.im true) 4 []))] []),
  oO 19 (.mov (.s 6)),
  oN (.store true 3 (.s 2) (.t 18)),
  oO 3 (.mov (.s 19)),
  oO 4 (.mov (.c (.one (.d (.int .i64 1700)))))] none) .ret) .skip)) (.seq (.reg (some [2, 0, 5]) false [
  oO 20 (.mov (.s 5)),
  oO 21 (.mov (.s 0)),
  oO 22 (.len true (.s 21)),
  oO 23 (.build [(.d (.sl (.im true) 3 [])), (.d (.int .i64 0)), (.d (.int .i64 0)), (.d (.int .i64 0))] [(0, 1, (.t 20)), (2, 1, (.s 22)), (3, 1, (.c (.one (.d (.int .i64 (-1))))))]),
  oO 24 (.build [(.d (.sl (.im true) 3 [])), (.d (.int .i64 0)), (.d (.int .i64 0)), (.d (.int .i64 0)), (.d (.str [])), (.d (.sl (.im true) 3 [])), (.d (.sl (.im true) 6 [])), (.d (.sl (.im true) 10 []))] [(0, 4, (.t 23))]),
  oO 25 (.box 8 (.t 24)),
  oO 8 (.mov (.s 25))] none) (.seq (.reg (some [8, 2]) false [
  oO 9 (.alloc [(.d (.sl (.im true) 3 [])), (.d (.sl (.im true) 2 [])), (.d (.sl (.im true) 4 []))])] none) (.seq (.block 0 (.loop 0 (some [9, 8, 2]) true k6_b0)) k6_c0)))))), true⟩
def an6 : Ann := ⟨lkN [(2, [.im 3, .im 2, .im 4]), (40, [.im 3]), (45, [.im 3]), (52, [.im 2]), (57, [.im 2]), (64, [.im 4]), (69, [.im 4]), (79, [.int .i64]), (2, [.im 3, .im 2, .im 4]), (80, [.im 3, .im 2, .im 4]), (2, [.im 3, .im 2, .im 4])], resT, imB, noB⟩
def h6_0 (Cl : Oracle) (n : Nat) (bx : List (List C)) (m0 : Nat) (S : Go.Abs.St) : Option (V × List (List C)) := iterK 0 (evCA an6 Cl n k6_b0) (some [9, 8, 2]) true m0 S (blockK 0 (seqK (evCA an6 Cl n k6_c0) (retK [.cell 2 3 true, .slot 3, .slot 4] true bx)))
def hint7 : Hint := ⟨146, 15, [], [], [(0, (some [0]), false), (1, (some [0]), false), (2, (some []), false), (3, (some [0]), false), (4, (some [0, 5]), false), (5, (some [0, 5, 6]), true), (6, (some [0, 5, 6]), false), (7, (some [0, 5, 6, 7]), false), (8, (some [0, 5, 6, 8, 7]), false), (9, (some [0, 5, 6, 8, 7, 9]), false), (15, (some [0, 5, 6, 8, 7, 9]), false), (16, (some [0, 5, 6]), false), (17, (some [0, 5, 6, 8, 7, 9]), false), (18, (some [0, 5, 6]), false), (19, (some [0, 8, 5, 6, 7, 9]), false), (20, (some [0, 8, 5, 6]), false), (21, (some [0, 8, 5, 6]), false), (22, (some [6, 0, 8, 5, 7, 9]), false), (23, (some [6, 0, 8, 5]), false), (24, (some [6, 0, 8, 5]), false), (25, (some [6, 0, 10, 8, 5]), false), (26, (some [6]), false), (27, (some [6, 0, 8, 5, 7]), false), (28, (some [6, 0, 8, 5]), false), (29, (some [6, 0, 12, 8, 5, 11, 13]), false), (30, (some [6]), false), (31, (some [0, 12, 8, 5, 11]), false), (32, (some [0, 12, 8, 5, 11]), false), (33, (some [0, 12, 8, 5]), false), (34, (some [0, 5, 12]), false), (10, (some [6, 0, 8, 5]), false), (11, (some [6, 0, 8, 5, 14]), false), (12, (some [6]), false), (13, (some [0, 8, 5, 6, 14]), false), (14, (some [0, 8, 5, 6, 14]), false), (35, (some [0, 10, 8, 5, 6]), false), (36, (some [0, 10, 8, 5]), false), (37, (some [0, 5, 10]), false), (38, (some [5]), false)]⟩
def k7_c0 : KCode := (.seq (.reg (some [5]) false [
  oO 145 (.mov (.s 5)),
  oO 2 (.mov (.t 145)),
  oO 3 (.mov (.c (.one (.d (.int .i64 0))))),
  oO 4 (.mov (.c (.one (.d (.int .i64 0)))))] none) .ret)
def k7_b0 : KCode := (.seq (.seq (.reg none false [
  oO 18 (.mov (.s 6)),
  oO 19 (.mov (.s 0)),
  oO 20 (.len true (.s 19)),
  oO 21 (.bin .other .lss (.s 18) (.s 20))] none) (.cond (.s 21) .skip (.exit 0))) (.block 1 (.seq (.reg (some [0, 5, 6]) false [
  oO 22 (.mov (.s 0)),
  oO 23 (.mov (.s 6)),
  oO 24 (.index (.s 22) (.s 23)),
  oO 7 (.mov (.s 24))] none) (.seq (.reg (some [0, 5, 6, 7]) false [
  oO 25 (.mov (.s 6)),
  oO 26 (.build [(.d (.int .i64 0)), (.d (.str [])), (.d (.int .i64 0))] [(2, 1, (.s 25))]),
  oO 8 (.alloc [(.d (.int .i64 0)), (.d (.str [])), (.d (.int .i64 0))]),
  oN (.store false 3 (.s 8) (.s 26))] none) (.seq (.reg (some [0, 5, 6, 8, 7]) false [
  oO 27 (.mov (.s 7)),
  oO 28 (.bin .other .eql (.s 27) (.c (.one (.d (.int .u8 45))))),
  oO 29 (.mov (.s 28)),
  oT 30 29 (.mov (.s 6)),
  oT 31 29 (.bin .other .add (.s 30) (.c (.one (.d (.int .i64 1))))),
  oT 32 29 (.mov (.s 0)),
  oT 33 29 (.len true (.s 32)),
  oT 34 29 (.bin .other .lss (.s 31) (.s 33)),
  oO 35 (.pick (.s 29) (.s 34) (.c (.one (.d (.bool false))))),
  oO 36 (.mov (.s 35)),
  oT 37 36 (.mov (.s 0)),
  oT 38 36 (.mov (.s 6)),
  oT 39 36 (.bin .other .add (.s 38) (.c (.one (.d (.int .i64 1))))),
  oT 40 36 (.index (.s 37) (.s 39)),
  oT 41 36 (.call (.f 15) [(false, (.s 40))]),
  oO 42 (.pick (.s 36) (.s 41) (.c (.one (.d (.bool false))))),
  oO 43 (.mov (.s 42)),
  oT 44 43 (.mov (.s 5)),
  oT 45 43 (.len false (.s 44)),
  oT 46 43 (.bin .other .eql (.s 45) (.c (.one (.d (.int .i64 0))))),
  oT 47 43 (.mov (.s 46)),
  oF 48 47 (.mov (.s 5)),
  oF 49 47 (.mov (.s 5)),
  oF 50 47 (.len false (.s 49)),
  oF 51 47 (.bin .other .sub (.s 50) (.c (.one (.d (.int .i64 1))))),
  oF 52 47 (.indexA 3 (.s 48) (.s 51)),
  oF 53 47 (.load 3 true (.s 52)),
  oF 54 47 (.call (.f 16) [(false, (.s 53))]),
  oF 55 47 (.un .not (.s 54)),
  oT 56 43 (.pick (.s 47) (.c (.one (.d (.bool true)))) (.s 55)),
  oO 57 (.pick (.s 43) (.s 56) (.c (.one (.d (.bool false))))),
  oO 9 (.mov (.s 57))] none) (.seq (.reg (some [0, 5, 6, 8, 7, 9]) false [
  oO 58 (.mov (.s 6)),
  oO 10 (.mov (.s 58))] none) (.seq (.block 2 (.seq (.reg (some [0, 5, 6, 8, 7, 9]) false [
  oO 71 (.mov (.s 7)),
  oO 72 (.bin .other .eql (.s 71) (.c (.one (.d (.int .u8 32))))),
  oO 73 (.mov (.s 72)),
  oF 74 73 (.mov (.s 7)),
  oF 75 73 (.bin .other .eql (.s 74) (.c (.one (.d (.int .u8 9))))),
  oO 76 (.pick (.s 73) (.c (.one (.d (.bool true)))) (.s 75)),
  oO 77 (.mov (.s 76)),
  oF 78 77 (.mov (.s 7)),
  oF 79 77 (.bin .other .eql (.s 78) (.c (.one (.d (.int .u8 10))))),
  oO 80 (.pick (.s 77) (.c (.one (.d (.bool true)))) (.s 79)),
  oO 70 (.mov (.s 80))] none) (.cond (.s 70) (.seq (.reg (some [0, 5, 6]) false [
  oO 81 (.mov (.s 6)),
  oO 82 (.bin .other .add (.s 81) (.c (.one (.d (.int .i64 1))))),
  oO 6 (.mov (.s 82))] none) (.exit 1)) (.seq (.reg (some [0, 5, 6, 8, 7, 9]) false [
  oO 84 (.mov (.s 7)),
  oO 85 (.bin .other .eql (.s 84) (.c (.one (.d (.int .u8 35))))),
  oO 83 (.mov (.s 85))] none) (.cond (.s 83) (.seq (.reg (some [0, 5, 6]) false [
  oO 86 (.mov (.s 0)),
  oO 87 (.mov (.s 6)),
  oO 88 (.call (.f 17) [(false, (.s 86)), (false, (.s 87)), (false, (.f 18))]),
  oO 6 (.mov (.s 88))] none) (.exit 1)) (.seq (.reg (some [0, 8, 5, 6, 7, 9]) false [
  oO 90 (.mov (.s 7)),
  oO 91 (.call (.f 19) [(false, (.s 90))]),
  oO 89 (.mov (.s 91))] none) (.cond (.s 89) (.seq (.reg (some [0, 8, 5, 6]) false [
  oO 92 (.fieldA 0 (.s 8)),
  oN (.store false 1 (.s 92) (.c (.one (.d (.int .i64 0)))))] none) (.reg (some [0, 8, 5, 6]) false [
  oO 93 (.mov (.s 0)),
  oO 94 (.mov (.s 6)),
  oO 95 (.call (.f 17) [(false, (.s 93)), (false, (.s 94)), (false, (.f 20))]),
  oO 10 (.mov (.s 95))] none)) (.seq (.reg (some [6, 0, 8, 5, 7, 9]) false [
  oO 97 (.mov (.s 7)),
  oO 98 (.call (.f 15) [(false, (.s 97))]),
  oO 99 (.mov (.s 98)),
  oF 100 99 (.mov (.s 9)),
  oO 101 (.pick (.s 99) (.c (.one (.d (.bool true)))) (.s 100)),
  oO 96 (.mov (.s 101))] none) (.cond (.s 96) (.seq (.reg (some [6, 0, 8, 5]) false [
  oO 102 (.fieldA 0 (.s 8)),
  oN (.store false 1 (.s 102) (.c (.one (.d (.int .i64 1)))))] none) (.seq (.reg (some [6, 0, 8, 5]) false [
  oO 103 (.mov (.s 0)),
  oO 104 (.mov (.s 6)),
  oO 105 (.bin .other .add (.s 104) (.c (.one (.d (.int .i64 1))))),
  oO 106 (.call (.f 17) [(false, (.s 103)), (false, (.s 105)), (false, (.f 15))]),
  oO 10 (.mov (.s 106))] none) (.seq (.reg (some [6, 0, 10, 8, 5]) false [
  oO 107 (.mov (.s 0)),
  oO 108 (.mov (.s 6)),
  oO 109 (.mov (.s 10)),
  oO 110 (.sliceS (.s 107) (some (.s 108)) (some (.s 109))),
  oO 111 (.call (.f 21) [(false, (.s 110))]),
  oO 112 (.un .not (.s 111))] none) (.cond (.s 112) (.seq (.reg (some [6]) false [
  oO 113 (.mov (.s 6)),
  oO 2 (.mov (.c (.one (.d (.sl (.im true) 3 []))))),
  oO 3 (.mov (.s 113)),
  oO 4 (.mov (.c (.one (.d (.int .i64 202)))))] none) .ret) .skip)))) (.seq (.reg (some [6, 0, 8, 5, 7]) false [
  oO 115 (.mov (.s 7)),
  oO 116 (.bin .other .eql (.s 115) (.c (.one (.d (.int .u8 34))))),
  oO 114 (.mov (.s 116))] none) (.cond (.s 114) (.seq (.reg (some [6, 0, 8, 5]) false [
  oO 118 (.mov (.s 0)),
  oO 119 (.mov (.s 6)),
  oO 120 (.call (.f 22) [(false, (.s 118)), (false, (.s 119))]),
  oO 117 (.mov (.s 120)),
  oO 121 (.extract 0 (.s 117)),
  oO 122 (.extract 1 (.s 117)),
  oO 123 (.extract 2 (.s 117)),
  oO 11 (.mov (.s 121)),
  oO 12 (.mov (.s 122)),
  oO 13 (.mov (.s 123))] none) (.seq (.seq (.reg (some [6, 0, 12, 8, 5, 11, 13]) false [
  oO 124 (.mov (.s 13)),
  oO 125 (.un .not (.s 124))] none) (.cond (.s 125) (.seq (.reg (some [6]) false [
  oO 126 (.mov (.s 6)),
  oO 2 (.mov (.c (.one (.d (.sl (.im true) 3 []))))),
  oO 3 (.mov (.s 126)),
  oO 4 (.mov (.c (.one (.d (.int .i64 203)))))] none) .ret) .skip)) (.seq (.reg (some [0, 12, 8, 5, 11]) false [
  oO 127 (.fieldA 0 (.s 8)),
  oN (.store false 1 (.s 127) (.c (.one (.d (.int .i64 2)))))] none) (.seq (.reg (some [0, 12, 8, 5, 11]) false [
  oO 128 (.mov (.s 11)),
  oO 129 (.fieldA 1 (.s 8)),
  oN (.store false 1 (.s 129) (.s 128))] none) (.seq (.reg (some [0, 12, 8, 5]) false [
  oO 130 (.mov (.s 5)),
  oO 131 (.load 3 true (.s 8)),
  oO 132 (.bslice 3 [[(.int .i64 0), (.str []), (.int .i64 0)]] [(0, (.s 131))]),
  oO 133 (.app 3 32 (.t 130) (.t 132)),
  oO 5 (.mov (.t 133))] none) (.seq (.reg (some [0, 5, 12]) false [
  oO 134 (.mov (.s 12)),
  oO 6 (.mov (.s 134))] none) (.exit 1))))))) (.seq (.reg (some [6, 0, 8, 5]) false [
  oO 59 (.mov (.s 0)),
  oO 60 (.mov (.s 6)),
  oO 61 (.call (.f 23) [(false, (.s 59)), (false, (.s 60))]),
  oO 14 (.mov (.s 61))] none) (.seq (.seq (.reg (some [6, 0, 8, 5, 14]) false [
  oO 62 (.mov (.s 14)),
  oO 63 (.bin .other .eql (.s 62) (.c (.one (.d (.str [])))))] none) (.cond (.s 63) (.seq (.reg (some [6]) false [
  oO 64 (.mov (.s 6)),
  oO 2 (.mov (.c (.one (.d (.sl (.im true) 3 []))))),
  oO 3 (.mov (.s 64)),
  oO 4 (.mov (.c (.one (.d (.int .i64 201)))))] none) .ret) .skip)) (.seq (.reg (some [0, 8, 5, 6, 14]) false [
  oO 65 (.fieldA 0 (.s 8)),
  oN (.store false 1 (.s 65) (.c (.one (.d (.int .i64 3)))))] none) (.reg (some [0, 8, 5, 6, 14]) false [
  oO 66 (.mov (.s 6)),
  oO 67 (.mov (.s 14)),
  oO 68 (.len true (.s 67)),
  oO 69 (.bin .other .add (.s 66) (.s 68)),
  oO 10 (.mov (.s 69))] none))))))))))))))) (.seq (.reg (some [0, 10, 8, 5, 6]) false [
  oO 135 (.mov (.s 0)),
  oO 136 (.mov (.s 6)),
  oO 137 (.mov (.s 10)),
  oO 138 (.sliceS (.s 135) (some (.s 136)) (some (.s 137))),
  oO 139 (.fieldA 1 (.s 8)),
  oN (.store false 1 (.s 139) (.s 138))] none) (.seq (.reg (some [0, 10, 8, 5]) false [
  oO 140 (.mov (.s 5)),
  oO 141 (.load 3 true (.s 8)),
  oO 142 (.bslice 3 [[(.int .i64 0), (.str []), (.int .i64 0)]] [(0, (.s 141))]),
  oO 143 (.app 3 32 (.t 140) (.t 142)),
  oO 5 (.mov (.t 143))] none) (.reg (some [0, 5, 10]) false [
  oO 144 (.mov (.s 10)),
  oO 6 (.mov (.s 144))] none))))))))))
def k7 : KFunc := ⟨146, [.slot 2, .slot 3, .slot 4], (.seq (.reg (some [0]) false [
  oO 2 (.mov (.c (.one (.d (.sl (.im true) 3 []))))),
  oO 3 (.mov (.c (.one (.d (.int .i64 0))))),
  oO 4 (.mov (.c (.one (.d (.int .i64 0)))))] none) (.seq (.seq (.reg (some [0]) false [
  oO 15 (.mov (.s 0)),
  oO 16 (.len true (.s 15)),
  oO 17 (.bin .other .gtr (.s 16) (.c (.one (.d (.int .i64 16384)))))] none) (.cond (.s 17) (.seq (.reg (some []) false [
  oO 2 (.mov (.c (.one (.d (.sl (.im true) 3 []))))),
  oO 3 (.mov (.c (.one (.d (.int .i64 0))))),
  oO 4 (.mov (.c (.one (.d (.int .i64 200)))))] none) .ret) .skip)) (.seq (.reg (some [0]) false [
  oO 5 (.mov (.c (.one (.d (.sl (.im true) 3 [])))))] none) (.seq (.reg (some [0, 5]) false [
  oO 6 (.mov (.c (.one (.d (.int .i64 0)))))] none) (.seq (.block 0 (.loop 0 (some [0, 5, 6]) true k7_b0)) k7_c0))))), true⟩
def an7 : Ann := ⟨lkN [(8, [.int .i64, .str, .int .i64]), (53, [.int .i64, .str, .int .i64]), (92, [.int .i64]), (102, [.int .i64]), (127, [.int .i64]), (129, [.str]), (131, [.int .i64, .str, .int .i64]), (65, [.int .i64]), (139, [.str]), (141, [.int .i64, .str, .int .i64])], resT, imB, noB⟩
def h7_0 (Cl : Oracle) (n : Nat) (bx : List (List C)) (m0 : Nat) (S : Go.Abs.St) : Option (V × List (List C)) := iterK 0 (evCA an7 Cl n k7_b0) (some [0, 5, 6]) true m0 S (blockK 0 (seqK (evCA an7 Cl n k7_c0) (retK [.slot 2, .slot 3, .slot 4] true bx)))
def hint8 : Hint := ⟨18, 3, [], [], [(0, (some [0]), false), (1, (some [0]), false)]⟩
def k8 : KFunc := ⟨18, [.slot 2], (.seq (.reg (some [0]) false [
  oO 2 (.mov (.c (.one (.d (.bool false)))))] none) (.seq (.reg (some [0]) false [
  oO 3 (.mov (.s 0)),
  oO 4 (.call (.f 14) [(false, (.s 3))]),
  oO 5 (.un .not (.s 4)),
  oO 6 (.mov (.s 5)),
  oT 7 6 (.mov (.s 0)),
  oT 8 6 (.nilck (.s 7)),
  oT 9 6 (.fieldA 1 (.s 8)),
  oT 10 6 (.load 1 false (.s 9)),
  oT 11 6 (.mov (.s 0)),
  oT 12 6 (.nilck (.s 11)),
  oT 13 6 (.fieldA 0 (.s 12)),
  oT 14 6 (.load 1 false (.s 13)),
  oT 15 6 (.len false (.s 14)),
  oT 16 6 (.bin .other .lss (.s 10) (.s 15)),
  oO 17 (.pick (.s 6) (.s 16) (.c (.one (.d (.bool false))))),
  oO 2 (.mov (.s 17))] (some [(4, 8), (5, 8), (6, 8), (7, 8), (4, 9), (5, 9), (6, 9), (7, 9), (4, 10), (5, 10), (6, 10), (7, 10), (4, 11), (5, 11), (6, 11), (7, 11), (4, 12), (5, 12), (6, 12), (7, 12)])) .ret)), true⟩
def an8 : Ann := ⟨lkN [(10, [.int .i64]), (14, [.im 3])], resT, imB, noB⟩
def hint9 : Hint := ⟨16, 5, [], [], [(0, (some [0, 1]), false), (1, (some [0, 1]), false), (2, (some []), false), (3, (some [0]), false), (4, (some []), false)]⟩
def k9 : KFunc := ⟨16, [.slot 4], (.seq (.reg (some [0, 1]) false [
  oO 4 (.mov (.c (.one (.d (.bool false)))))] none) (.seq (.seq (.reg (some [0, 1]) false [
  oO 5 (.mov (.s 0)),
  oO 6 (.mov (.s 1)),
  oO 7 (.call (.f 24) [(false, (.s 5)), (false, (.s 6))]),
  oO 8 (.un .not (.s 7))] none) (.cond (.s 8) (.seq (.reg (some []) false [
  oO 4 (.mov (.c (.one (.d (.bool false)))))] none) .ret) .skip)) (.seq (.reg (some [0]) false [
  oO 9 (.mov (.s 0)),
  oO 10 (.nilck (.s 9)),
  oO 11 (.fieldA 1 (.s 10)),
  oO 12 (.load 1 false (.s 11)),
  oO 13 (.bin .other .add (.s 12) (.c (.one (.d (.int .i64 1))))),
  oO 14 (.nilck (.s 9)),
  oO 15 (.fieldA 1 (.s 14)),
  oN (.store false 1 (.s 15) (.s 13))] none) (.seq (.reg (some []) false [
  oO 4 (.mov (.c (.one (.d (.bool true)))))] none) .ret)))), true⟩
def an9 : Ann := ⟨lkN [(12, [.int .i64]), (15, [.int .i64])], resT, imB, noB⟩
def hint10 : Hint := ⟨96, 5, [2], [], [(0, (some [0]), false), (1, (some [0, 2]), false), (2, (some [3, 0, 2]), false), (3, (some [3, 0, 2]), false), (4, (some [3, 0, 2]), true), (5, (some [3, 0, 2]), false), (6, (some [3, 0, 2]), false), (7, (some [3, 0, 2]), true), (8, (some [3, 0, 2]), false), (9, (some [3, 0, 2]), false), (10, (some [3, 0, 2]), false), (11, (some [3, 0, 2, 4]), false), (12, (some [3, 0, 2, 4]), false), (13, (some [3, 0, 2, 4]), false), (14, (some [3, 0, 2, 4]), false), (15, (some [3, 0, 2, 4]), false), (16, (some [3, 0, 2, 4]), false), (17, (some [2, 3, 0]), false), (18, (some [2, 3]), false)]⟩
def k10_c0 : KCode := (.seq (.reg (some [2, 3, 0]) false [
  oO 91 (.mov (.s 0)),
  oO 92 (.nilck (.s 91)),
  oO 93 (.fieldA 0 (.s 92)),
  oO 94 (.call (.f 26) [(false, (.t 93)), (false, (.c (.one (.d (.str [125])))))])] none) (.seq (.reg (some [2, 3]) false [
  oO 95 (.load 3 true (.s 3)),
  oN (.store true 3 (.s 2) (.t 95))] none) .ret))
def k10_b0 : KCode := (.seq (.seq (.reg none false [
  oO 40 (.mov (.s 0)),
  oO 41 (.nilck (.s 40)),
  oO 42 (.fieldA 0 (.s 41)),
  oO 43 (.call (.f 14) [(false, (.t 42))]),
  oO 44 (.un .not (.s 43)),
  oO 45 (.mov (.s 44)),
  oT 46 45 (.mov (.s 0)),
  oT 47 45 (.nilck (.s 46)),
  oT 48 45 (.fieldA 0 (.s 47)),
  oT 49 45 (.call (.f 24) [(false, (.t 48)), (false, (.c (.one (.d (.str [125])))))]),
  oT 50 45 (.un .not (.s 49)),
  oO 51 (.pick (.s 45) (.s 50) (.c (.one (.d (.bool false)))))] none) (.cond (.s 51) .skip (.exit 2))) (.block 3 (.seq (.reg (some [3, 0, 2]) false [
  oO 52 (.mov (.s 0)),
  oO 53 (.nilck (.s 52)),
  oO 54 (.fieldA 0 (.s 53)),
  oO 55 (.fieldA 2 (.s 3)),
  oO 56 (.load 1 false (.s 55)),
  oO 57 (.len false (.s 56)),
  oO 58 (.call (.f 27) [(false, (.t 54)), (false, (.s 57))])] (some [(0, 3), (1, 3), (2, 3), (0, 4), (1, 4), (2, 4), (0, 5), (1, 5), (2, 5)])) (.seq (.reg (some [3, 0, 2]) false [
  oO 59 (.mov (.s 0)),
  oO 60 (.nilck (.s 59)),
  oO 61 (.fieldA 0 (.s 60)),
  oO 62 (.call (.f 26) [(false, (.t 61)), (false, (.c (.one (.d (.str [58])))))])] none) (.seq (.reg (some [3, 0, 2]) false [
  oO 4 (.alloc [(.d (.str [])), (.d (.str [])), (.d (.sl (.im true) 4 []))])] none) (.seq (.seq (.reg (some [3, 0, 2, 4]) false [
  oO 63 (.mov (.s 0)),
  oO 64 (.nilck (.s 63)),
  oO 65 (.fieldA 0 (.s 64)),
  oO 66 (.call (.f 9) [(false, (.t 65)), (false, (.c (.one (.d (.str [101, 110, 100])))))]),
  oO 67 (.un .not (.s 66))] none) (.cond (.s 67) (.seq (.reg (some [3, 0, 2, 4]) false [
  oO 68 (.mov (.s 0)),
  oO 69 (.nilck (.s 68)),
  oO 70 (.fieldA 0 (.s 69)),
  oO 71 (.call (.f 25) [(false, (.t 70))]),
  oO 72 (.fieldA 0 (.s 4)),
  oN (.store false 1 (.s 72) (.s 71))] none) (.seq (.reg (some [3, 0, 2, 4]) false [
  oO 73 (.mov (.s 0)),
  oO 74 (.nilck (.s 73)),
  oO 75 (.fieldA 0 (.s 74)),
  oO 76 (.call (.f 26) [(false, (.t 75)), (false, (.c (.one (.d (.str [45, 62])))))])] none) (.seq (.reg (some [3, 0, 2, 4]) false [
  oO 77 (.mov (.s 0)),
  oO 78 (.nilck (.s 77)),
  oO 79 (.fieldA 0 (.s 78)),
  oO 80 (.call (.f 25) [(false, (.t 79))]),
  oO 81 (.fieldA 1 (.s 4)),
  oN (.store false 1 (.s 81) (.s 80))] none) (.reg (some [3, 0, 2, 4]) false [
  oO 82 (.mov (.s 0)),
  oO 83 (.call (.f 28) [(false, (.s 82))]),
  oO 84 (.fieldA 2 (.s 4)),
  oN (.store false 1 (.s 84) (.t 83))] none)))) .skip)) (.reg (some [3, 0, 2, 4]) false [
  oO 85 (.fieldA 2 (.s 3)),
  oO 86 (.load 1 false (.s 85)),
  oO 87 (.load 3 true (.s 4)),
  oO 88 (.bslice 3 [[(.str []), (.str []), (.sl (.im true) 4 [])]] [(0, (.t 87))]),
  oO 89 (.app 3 56 (.t 86) (.t 88)),
  oO 90 (.fieldA 2 (.s 3)),
  oN (.store false 1 (.s 90) (.t 89))] none)))))))
def k10_c1 : KCode := (.seq (.reg (some [3, 0, 2]) false [
  oO 36 (.mov (.s 0)),
  oO 37 (.nilck (.s 36)),
  oO 38 (.fieldA 0 (.s 37)),
  oO 39 (.call (.f 26) [(false, (.t 38)), (false, (.c (.one (.d (.str [123])))))])] none) (.seq (.block 2 (.loop 0 (some [3, 0, 2]) true k10_b0)) k10_c0))
def k10_b1 : KCode := (.seq (.seq (.reg none false [
  oO 23 (.mov (.s 0)),
  oO 24 (.nilck (.s 23)),
  oO 25 (.fieldA 0 (.s 24)),
  oO 26 (.call (.f 9) [(false, (.t 25)), (false, (.c (.one (.d (.str [44])))))])] none) (.cond (.s 26) .skip (.exit 0))) (.block 1 (.reg (some [3, 0, 2]) false [
  oO 27 (.fieldA 1 (.s 3)),
  oO 28 (.load 1 false (.s 27)),
  oO 29 (.mov (.s 0)),
  oO 30 (.nilck (.s 29)),
  oO 31 (.fieldA 0 (.s 30)),
  oO 32 (.call (.f 25) [(false, (.t 31))]),
  oO 33 (.bslice 1 [[(.str [])]] [(0, (.s 32))]),
  oO 34 (.app 1 16 (.t 28) (.t 33)),
  oO 35 (.fieldA 1 (.s 3)),
  oN (.store false 1 (.s 35) (.t 34))] (some [(0, 2), (1, 2), (0, 3), (1, 3), (0, 4), (1, 4), (0, 5), (1, 5), (0, 6), (1, 6)]))))
def k10 : KFunc := ⟨96, [.cell 2 3 true], (.seq (.reg (some [0]) false [
  oO 2 (.alloc [(.d (.str [])), (.d (.sl (.im true) 1 [])), (.d (.sl (.im true) 3 []))])] none) (.seq (.reg (some [0, 2]) false [
  oO 5 (.mov (.s 0)),
  oO 6 (.nilck (.s 5)),
  oO 7 (.fieldA 0 (.s 6)),
  oO 8 (.call (.f 25) [(false, (.t 7))]),
  oO 9 (.build [(.d (.str [])), (.d (.sl (.im true) 1 [])), (.d (.sl (.im true) 3 []))] [(0, 1, (.s 8))]),
  oO 3 (.alloc [(.d (.str [])), (.d (.sl (.im true) 1 [])), (.d (.sl (.im true) 3 []))]),
  oN (.store false 3 (.s 3) (.t 9))] none) (.seq (.reg (some [3, 0, 2]) false [
  oO 10 (.mov (.s 0)),
  oO 11 (.nilck (.s 10)),
  oO 12 (.fieldA 0 (.s 11)),
  oO 13 (.call (.f 26) [(false, (.t 12)), (false, (.c (.one (.d (.str [114, 111, 108, 101, 115])))))])] none) (.seq (.reg (some [3, 0, 2]) false [
  oO 14 (.fieldA 1 (.s 3)),
  oO 15 (.load 1 false (.s 14)),
  oO 16 (.mov (.s 0)),
  oO 17 (.nilck (.s 16)),
  oO 18 (.fieldA 0 (.s 17)),
  oO 19 (.call (.f 25) [(false, (.t 18))]),
  oO 20 (.bslice 1 [[(.str [])]] [(0, (.s 19))]),
  oO 21 (.app 1 16 (.t 15) (.t 20)),
  oO 22 (.fieldA 1 (.s 3)),
  oN (.store false 1 (.s 22) (.t 21))] (some [(0, 2), (1, 2), (0, 3), (1, 3), (0, 4), (1, 4), (0, 5), (1, 5), (0, 6), (1, 6)])) (.seq (.block 0 (.loop 1 (some [3, 0, 2]) true k10_b1)) k10_c1))))), true⟩
def an10 : Ann := ⟨lkN [(3, [.str, .im 1, .im 3]), (15, [.im 1]), (22, [.im 1]), (28, [.im 1]), (35, [.im 1]), (56, [.im 3]), (72, [.str]), (81, [.str]), (84, [.im 4]), (86, [.im 3]), (87, [.str, .str, .im 4]), (90, [.im 3]), (95, [.str, .im 1, .im 3]), (2, [.str, .im 1, .im 3])], resT, imB, noB⟩
def h10_0 (Cl : Oracle) (n : Nat) (bx : List (List C)) (m0 : Nat) (S : Go.Abs.St) : Option (V × List (List C)) := iterK 0 (evCA an10 Cl n k10_b0) (some [3, 0, 2]) true m0 S (blockK 2 (seqK (evCA an10 Cl n k10_c0) (retK [.cell 2 3 true] true bx)))
def h10_1 (Cl : Oracle) (n : Nat) (bx : List (List C)) (m1 : Nat) (S : Go.Abs.St) : Option (V × List (List C)) := iterK 1 (evCA an10 Cl n k10_b1) (some [3, 0, 2]) true m1 S (blockK 0 (seqK (evCA an10 Cl n k10_c1) (retK [.cell 2 3 true] true bx)))
def hint12 : Hint := ⟨75, 4, [2], [], [(0, (some [0]), false), (1, (some [2, 0]), false), (2, (some [2, 0]), false), (3, (some [2, 0]), true), (4, (some [2, 0]), false), (5, (some [2, 0, 3]), false), (6, (some [2, 0, 3]), false), (7, (some [2, 0, 3]), false), (8, (some [2, 0]), false), (9, (some [2, 0]), false), (10, (some [2, 0]), false), (11, (some [2, 0]), false), (12, (some [2, 0]), false), (13, (some [2, 0]), false)]⟩
def k12_c0 : KCode := (.seq (.reg (some [2, 0]) false [
  oO 65 (.mov (.s 0)),
  oO 66 (.nilck (.s 65)),
  oO 67 (.fieldA 0 (.s 66)),
  oO 68 (.call (.f 26) [(false, (.t 67)), (false, (.c (.one (.d (.str [41])))))])] none) (.seq (.reg (some [2, 0]) false [
  oO 69 (.mov (.s 0)),
  oO 70 (.call (.f 30) [(false, (.s 69))])] none) (.seq (.reg (some [2, 0]) false [
  oO 71 (.mov (.s 0)),
  oO 72 (.nilck (.s 71)),
  oO 73 (.fieldA 4 (.s 72)),
  oO 74 (.load 4 true (.s 73)),
  oN (.store true 4 (.s 2) (.t 74))] none) .ret)))
def k12_b0 : KCode := (.seq (.seq (.reg none false [
  oO 16 (.mov (.s 0)),
  oO 17 (.nilck (.s 16)),
  oO 18 (.fieldA 0 (.s 17)),
  oO 19 (.call (.f 14) [(false, (.t 18))]),
  oO 20 (.un .not (.s 19)),
  oO 21 (.mov (.s 20)),
  oT 22 21 (.mov (.s 0)),
  oT 23 21 (.nilck (.s 22)),
  oT 24 21 (.fieldA 0 (.s 23)),
  oT 25 21 (.call (.f 24) [(false, (.t 24)), (false, (.c (.one (.d (.str [41])))))]),
  oT 26 21 (.un .not (.s 25)),
  oO 27 (.pick (.s 21) (.s 26) (.c (.one (.d (.bool false)))))] none) (.cond (.s 27) .skip (.exit 0))) (.block 1 (.seq (.reg (some [2, 0]) false [
  oO 28 (.mov (.s 0)),
  oO 29 (.nilck (.s 28)),
  oO 30 (.fieldA 0 (.s 29)),
  oO 31 (.call (.f 25) [(false, (.t 30))]),
  oO 32 (.build [(.d (.str [])), (.d (.int .i64 0)), (.d (.str []))] [(0, 1, (.s 31))]),
  oO 3 (.alloc [(.d (.str [])), (.d (.int .i64 0)), (.d (.str []))]),
  oN (.store false 3 (.s 3) (.s 32))] none) (.seq (.reg (some [2, 0, 3]) false [
  oO 33 (.mov (.s 0)),
  oO 34 (.nilck (.s 33)),
  oO 35 (.fieldA 0 (.s 34)),
  oO 36 (.call (.f 26) [(false, (.t 35)), (false, (.c (.one (.d (.str [58])))))])] none) (.seq (.reg (some [2, 0, 3]) false [
  oO 37 (.mov (.s 0)),
  oO 38 (.call (.f 29) [(false, (.s 37))]),
  oO 39 (.fieldA 1 (.s 3)),
  oN (.store false 2 (.s 39) (.s 38))] none) (.seq (.reg (some [2, 0, 3]) false [
  oO 40 (.mov (.s 0)),
  oO 41 (.mov (.s 0)),
  oO 42 (.nilck (.s 41)),
  oO 43 (.fieldA 4 (.s 42)),
  oO 44 (.fieldA 1 (.s 43)),
  oO 45 (.load 1 false (.s 44)),
  oO 46 (.load 3 true (.s 3)),
  oO 47 (.bslice 3 [[(.str []), (.int .i64 0), (.str [])]] [(0, (.s 46))]),
  oO 48 (.app 3 40 (.t 45) (.t 47)),
  oO 49 (.nilck (.s 40)),
  oO 50 (.fieldA 4 (.s 49)),
  oO 51 (.fieldA 1 (.s 50)),
  oN (.store false 1 (.s 51) (.t 48))] (some [(0, 1), (0, 2), (0, 3), (0, 4), (0, 5), (0, 6), (1, 6), (2, 6), (3, 6), (4, 6), (5, 6), (0, 7), (1, 7), (2, 7), (3, 7), (4, 7), (5, 7), (0, 8)])) (.seq (.seq (.reg (some [2, 0]) false [
  oO 52 (.mov (.s 0)),
  oO 53 (.nilck (.s 52)),
  oO 54 (.fieldA 0 (.s 53)),
  oO 55 (.call (.f 9) [(false, (.t 54)), (false, (.c (.one (.d (.str [44])))))]),
  oO 56 (.un .not (.s 55))] none) (.cond (.s 56) (.exit 0) .skip)) (.seq (.reg (some [2, 0]) false [
  oO 57 (.mov (.s 0)),
  oO 58 (.nilck (.s 57)),
  oO 59 (.fieldA 0 (.s 58)),
  oO 60 (.call (.f 24) [(false, (.t 59)), (false, (.c (.one (.d (.str [41])))))])] none) (.cond (.s 60) (.reg (some [2, 0]) false [
  oO 61 (.mov (.s 0)),
  oO 62 (.nilck (.s 61)),
  oO 63 (.fieldA 0 (.s 62)),
  oO 64 (.call (.f 13) [(false, (.t 63))])] none) .skip)))))))))
def k12 : KFunc := ⟨75, [.cell 2 4 true], (.seq (.reg (some [0]) false [
  oO 2 (.alloc [(.d (.str [])), (.d (.sl (.im true) 3 [])), (.d (.sl (.im true) 6 [])), (.d (.sl (.im true) 10 []))])] none) (.seq (.reg (some [2, 0]) false [
  oO 4 (.mov (.s 0)),
  oO 5 (.mov (.s 0)),
  oO 6 (.nilck (.s 5)),
  oO 7 (.fieldA 0 (.s 6)),
  oO 8 (.call (.f 25) [(false, (.t 7))]),
  oO 9 (.build [(.d (.str [])), (.d (.sl (.im true) 3 [])), (.d (.sl (.im true) 6 [])), (.d (.sl (.im true) 10 []))] [(0, 1, (.s 8))]),
  oO 10 (.nilck (.s 4)),
  oO 11 (.fieldA 4 (.s 10)),
  oN (.store false 4 (.s 11) (.t 9))] none) (.seq (.reg (some [2, 0]) false [
  oO 12 (.mov (.s 0)),
  oO 13 (.nilck (.s 12)),
  oO 14 (.fieldA 0 (.s 13)),
  oO 15 (.call (.f 26) [(false, (.t 14)), (false, (.c (.one (.d (.str [40])))))])] none) (.seq (.block 0 (.loop 0 (some [2, 0]) true k12_b0)) k12_c0)))), true⟩
def an12 : Ann := ⟨lkN [(11, [.str, .im 3, .im 6, .im 10]), (3, [.str, .int .i64, .str]), (39, [.int .i64, .str]), (45, [.im 3]), (46, [.str, .int .i64, .str]), (51, [.im 3]), (74, [.str, .im 3, .im 6, .im 10]), (2, [.str, .im 3, .im 6, .im 10])], resT, imB, noB⟩
def h12_0 (Cl : Oracle) (n : Nat) (bx : List (List C)) (m0 : Nat) (S : Go.Abs.St) : Option (V × List (List C)) := iterK 0 (evCA an12 Cl n k12_b0) (some [2, 0]) true m0 S (blockK 0 (seqK (evCA an12 Cl n k12_c0) (retK [.cell 2 4 true] true bx)))
def hint13 : Hint := ⟨35, 2, [], [], [(0, (some [0]), false), (1, (some [0]), false), (2, (some [0]), false), (3, (some [0]), false)]⟩
def k13 : KFunc := ⟨35, [], (.seq (.seq (.reg (some [0]) false [
  oO 2 (.mov (.s 0)),
  oO 3 (.call (.f 14) [(false, (.s 2))])] none) (.cond (.s 3) .ret .skip)) (.seq (.reg (some [0]) false [
  oO 4 (.mov (.s 0)),
  oO 5 (.mov (.s 0)),
  oO 6 (.nilck (.s 5)),
  oO 7 (.fieldA 2 (.s 6)),
  oO 8 (.load 1 false (.s 7)),
  oO 9 (.nilck (.s 4)),
  oO 10 (.fieldA 3 (.s 9)),
  oN (.store false 1 (.s 10) (.s 8))] none) (.seq (.reg (some [0]) false [
  oO 11 (.mov (.s 0)),
  oO 12 (.nilck (.s 11)),
  oO 13 (.fieldA 1 (.s 12)),
  oO 14 (.load 1 false (.s 13)),
  oO 15 (.mov (.s 0)),
  oO 16 (.nilck (.s 15)),
  oO 17 (.fieldA 0 (.s 16)),
  oO 18 (.load 1 false (.s 17)),
  oO 19 (.len false (.s 18)),
  oO 20 (.bin .other .lss (.s 14) (.s 19))] (some [(0, 4), (1, 4), (2, 4), (3, 4), (0, 5), (1, 5), (2, 5), (3, 5), (0, 6), (1, 6), (2, 6), (3, 6), (0, 7), (1, 7), (2, 7), (3, 7), (0, 8), (1, 8), (2, 8), (3, 8)])) (.cond (.s 20) (.reg (some [0]) false [
  oO 21 (.mov (.s 0)),
  oO 22 (.mov (.s 0)),
  oO 23 (.nilck (.s 22)),
  oO 24 (.fieldA 0 (.s 23)),
  oO 25 (.load 1 false (.s 24)),
  oO 26 (.mov (.s 0)),
  oO 27 (.nilck (.s 26)),
  oO 28 (.fieldA 1 (.s 27)),
  oO 29 (.load 1 false (.s 28)),
  oO 30 (.indexA 3 (.s 25) (.s 29)),
  oO 31 (.fieldA 2 (.s 30)),
  oO 32 (.load 1 false (.s 31)),
  oO 33 (.nilck (.s 21)),
  oO 34 (.fieldA 3 (.s 33)),
  oN (.store false 1 (.s 34) (.s 32))] (some [(0, 1), (0, 2), (0, 3), (0, 4), (0, 5), (1, 5), (2, 5), (3, 5), (4, 5), (0, 6), (1, 6), (2, 6), (3, 6), (4, 6), (0, 7), (1, 7), (2, 7), (3, 7), (4, 7), (0, 8), (1, 8), (2, 8), (3, 8), (4, 8), (0, 9), (0, 10), (0, 11)])) .skip)))), true⟩
def an13 : Ann := ⟨lkN [(8, [.int .i64]), (10, [.int .i64]), (14, [.int .i64]), (18, [.im 3]), (25, [.im 3]), (29, [.int .i64]), (32, [.int .i64]), (34, [.int .i64])], resT, imB, noB⟩
def hint14 : Hint := ⟨8, 3, [], [], [(0, (some [0]), false), (1, (some [0]), false)]⟩
def k14 : KFunc := ⟨8, [.slot 2], (.seq (.reg (some [0]) false [
  oO 2 (.mov (.c (.one (.d (.bool false)))))] none) (.seq (.reg (some [0]) false [
  oO 3 (.mov (.s 0)),
  oO 4 (.nilck (.s 3)),
  oO 5 (.fieldA 3 (.s 4)),
  oO 6 (.load 1 false (.s 5)),
  oO 7 (.bin .other .geq (.s 6) (.c (.one (.d (.int .i64 0))))),
  oO 2 (.mov (.s 7))] none) .ret)), true⟩
def an14 : Ann := ⟨lkN [(6, [.int .i64])], resT, imB, noB⟩
def hint15 : Hint := ⟨9, 3, [], [], [(0, (some [0]), false), (1, (some [0]), false)]⟩
def k15 : KFunc := ⟨9, [.slot 2], (.seq (.reg (some [0]) false [
  oO 2 (.mov (.c (.one (.d (.bool false)))))] none) (.seq (.reg (some [0]) false [
  oO 3 (.mov (.s 0)),
  oO 4 (.bin .other .geq (.s 3) (.c (.one (.d (.int .u8 48))))),
  oO 5 (.mov (.s 4)),
  oT 6 5 (.mov (.s 0)),
  oT 7 5 (.bin .other .leq (.s 6) (.c (.one (.d (.int .u8 57))))),
  oO 8 (.pick (.s 5) (.s 7) (.c (.one (.d (.bool false))))),
  oO 2 (.mov (.s 8))] none) .ret)), true⟩
def an15 : Ann := ⟨lkN [], resT, imB, noB⟩
def hint17 : Hint := ⟨21, 7, [], [], [(0, (some [1, 0, 2]), false), (1, (some [0, 2, 1]), true), (2, (some [0, 2, 1]), false), (3, (some [1]), false)]⟩
def k17_c0 : KCode := (.seq (.reg (some [1]) false [
  oO 20 (.mov (.s 1)),
  oO 6 (.mov (.s 20))] none) .ret)
def k17_b0 : KCode := (.seq (.seq (.reg none false [
  oO 7 (.mov (.s 1)),
  oO 8 (.mov (.s 0)),
  oO 9 (.len true (.s 8)),
  oO 10 (.bin .other .lss (.s 7) (.s 9)),
  oO 11 (.mov (.s 10)),
  oT 12 11 (.mov (.s 2)),
  oT 13 11 (.mov (.s 0)),
  oT 14 11 (.mov (.s 1)),
  oT 15 11 (.index (.s 13) (.s 14)),
  oT 16 11 (.call (.s 12) [(false, (.s 15))]),
  oO 17 (.pick (.s 11) (.s 16) (.c (.one (.d (.bool false)))))] none) (.cond (.s 17) .skip (.exit 0))) (.block 1 (.reg (some [0, 2, 1]) false [
  oO 18 (.mov (.s 1)),
  oO 19 (.bin .other .add (.s 18) (.c (.one (.d (.int .i64 1))))),
  oO 1 (.mov (.s 19))] none)))
def k17 : KFunc := ⟨21, [.slot 6], (.seq (.reg (some [1, 0, 2]) false [
  oO 6 (.mov (.c (.one (.d (.int .i64 0)))))] none) (.seq (.block 0 (.loop 0 (some [0, 2, 1]) true k17_b0)) k17_c0)), true⟩
def an17 : Ann := ⟨lkN [], resT, imB, noB⟩
def h17_0 (Cl : Oracle) (n : Nat) (bx : List (List C)) (m0 : Nat) (S : Go.Abs.St) : Option (V × List (List C)) := iterK 0 (evCA an17 Cl n k17_b0) (some [0, 2, 1]) true m0 S (blockK 0 (seqK (evCA an17 Cl n k17_c0) (retK [.slot 6] true bx)))
def hint19 : Hint := ⟨9, 3, [], [], [(0, (some [0]), false), (1, (some [0]), false)]⟩
def k19 : KFunc := ⟨9, [.slot 2], (.seq (.reg (some [0]) false [
  oO 2 (.mov (.c (.one (.d (.bool false)))))] none) (.seq (.reg (some [0]) false [
  oO 3 (.mov (.s 0)),
  oO 4 (.bin .other .geq (.s 3) (.c (.one (.d (.int .u8 97))))),
  oO 5 (.mov (.s 4)),
  oT 6 5 (.mov (.s 0)),
  oT 7 5 (.bin .other .leq (.s 6) (.c (.one (.d (.int .u8 122))))),
  oO 8 (.pick (.s 5) (.s 7) (.c (.one (.d (.bool false))))),
  oO 2 (.mov (.s 8))] none) .ret)), true⟩
def an19 : Ann := ⟨lkN [], resT, imB, noB⟩
def hint20 : Hint := ⟨9, 3, [], [], [(0, (some [0]), false), (1, (some [0]), false)]⟩
def k20 : KFunc := ⟨9, [.slot 2], (.seq (.reg (some [0]) false [
  oO 2 (.mov (.c (.one (.d (.bool false)))))] none) (.seq (.reg (some [0]) false [
  oO 3 (.mov (.s 0)),
  oO 4 (.call (.f 19) [(false, (.s 3))]),
  oO 5 (.mov (.s 4)),
  oF 6 5 (.mov (.s 0)),
  oF 7 5 (.call (.f 15) [(false, (.s 6))]),
  oO 8 (.pick (.s 5) (.c (.one (.d (.bool true)))) (.s 7)),
  oO 2 (.mov (.s 8))] none) .ret)), true⟩
def an20 : Ann := ⟨lkN [], resT, imB, noB⟩
def hint21 : Hint := ⟨46, 6, [], [], [(0, (some [0]), false), (1, (some [0]), false), (2, (some [0, 3]), false), (3, (some [0, 3]), false), (4, (some [0, 3]), false), (5, (some []), false), (6, (some [0]), false), (7, (some [5]), false)]⟩
def k21 : KFunc := ⟨46, [.slot 2], (.seq (.reg (some [0]) false [
  oO 2 (.mov (.c (.one (.d (.bool false)))))] none) (.seq (.reg (some [0]) false [
  oO 6 (.mov (.s 0)),
  oO 3 (.mov (.s 6))] none) (.seq (.seq (.reg (some [0, 3]) false [
  oO 7 (.mov (.s 3)),
  oO 8 (.bin .other .neq (.s 7) (.c (.one (.d (.str []))))),
  oO 9 (.mov (.s 8)),
  oT 10 9 (.mov (.s 3)),
  oT 11 9 (.index (.s 10) (.c (.one (.d (.int .i64 0))))),
  oT 12 9 (.bin .other .eql (.s 11) (.c (.one (.d (.int .u8 45))))),
  oO 13 (.pick (.s 9) (.s 12) (.c (.one (.d (.bool false)))))] none) (.cond (.s 13) (.reg (some [0, 3]) false [
  oO 14 (.mov (.s 3)),
  oO 15 (.sliceS (.s 14) (some (.c (.one (.d (.int .i64 1))))) none),
  oO 3 (.mov (.s 15))] none) .skip)) (.seq (.seq (.reg (some [0, 3]) false [
  oO 16 (.mov (.s 3)),
  oO 17 (.bin .other .eql (.s 16) (.c (.one (.d (.str []))))),
  oO 18 (.mov (.s 17)),
  oF 19 18 (.mov (.s 3)),
  oF 20 18 (.call (.f 17) [(false, (.s 19)), (false, (.c (.one (.d (.int .i64 0))))), (false, (.f 15))]),
  oF 21 18 (.mov (.s 3)),
  oF 22 18 (.len true (.s 21)),
  oF 23 18 (.bin .other .neq (.s 20) (.s 22)),
  oO 24 (.pick (.s 18) (.c (.one (.d (.bool true)))) (.s 23)),
  oO 25 (.mov (.s 24)),
  oF 26 25 (.mov (.s 3)),
  oF 27 25 (.index (.s 26) (.c (.one (.d (.int .i64 0))))),
  oF 28 25 (.bin .other .eql (.s 27) (.c (.one (.d (.int .u8 48))))),
  oF 29 25 (.mov (.s 28)),
  oT 30 29 (.mov (.s 3)),
  oT 31 29 (.len true (.s 30)),
  oT 32 29 (.bin .other .gtr (.s 31) (.c (.one (.d (.int .i64 1))))),
  oF 33 25 (.pick (.s 29) (.s 32) (.c (.one (.d (.bool false))))),
  oO 34 (.pick (.s 25) (.c (.one (.d (.bool true)))) (.s 33)),
  oO 35 (.mov (.s 34)),
  oF 36 35 (.mov (.s 0)),
  oF 37 35 (.bin .other .eql (.s 36) (.c (.one (.d (.str [45, 48]))))),
  oO 38 (.pick (.s 35) (.c (.one (.d (.bool true)))) (.s 37))] none) (.cond (.s 38) (.seq (.reg (some []) false [
  oO 2 (.mov (.c (.one (.d (.bool false)))))] none) .ret) .skip)) (.seq (.reg (some [0]) false [
  oO 40 (.mov (.s 0)),
  oO 41 (.call (.f 32) [(false, (.s 40)), (false, (.c (.one (.d (.int .i64 10))))), (false, (.c (.one (.d (.int .i64 64)))))]),
  oO 39 (.mov (.s 41)),
  oO 42 (.extract 0 (.s 39)),
  oO 43 (.extract 1 (.s 39)),
  oO 4 (.mov (.s 42)),
  oO 5 (.mov (.s 43))] none) (.seq (.reg (some [5]) false [
  oO 44 (.mov (.s 5)),
  oO 45 (.bin .iface .eql (.s 44) (.c (.one .nili))),
  oO 2 (.mov (.s 45))] none) .ret)))))), true⟩
def an21 : Ann := ⟨lkN [], resT, imB, noB⟩
def hint23 : Hint := ⟨44, 6, [], [], [(0, (some [1, 0]), false), (1, (some [1, 0]), false), (2, (some [1, 0]), false), (3, (some [5, 1, 0]), false), (4, (some [5, 1, 0, 16]), false), (5, (some [5, 1, 0, 16]), false), (6, (some [5]), false), (7, (some [1, 0]), false), (8, (some [1, 0, 23]), false), (9, (some [1, 0, 23]), false), (10, (some [1, 0, 23]), false), (11, (some [1, 0, 23]), false), (12, (some [1, 0, 23]), false), (13, (some [1, 0, 23]), false), (14, (some [1, 0, 23]), false), (15, (some [1, 0, 23]), false), (16, (some [1, 0, 23]), false), (17, (some [1, 0, 23]), false), (18, (some [1, 0, 23]), false), (19, (some [1, 0, 23]), false), (20, (some [1, 0, 23]), false), (21, (some [1, 0, 23]), false), (22, (some [1, 0]), false), (23, (some []), false)]⟩
def k23 : KFunc := ⟨44, [.slot 4], (.seq (.reg (some [1, 0]) false [
  oO 4 (.mov (.c (.one (.d (.str [])))))] none) (.seq (.seq (.reg (some [1, 0]) false [
  oO 6 (.mov (.s 1)),
  oO 7 (.bin .other .add (.s 6) (.c (.one (.d (.int .i64 1))))),
  oO 8 (.mov (.s 0)),
  oO 9 (.len true (.s 8)),
  oO 10 (.bin .other .lss (.s 7) (.s 9))] none) (.cond (.s 10) (.seq (.reg (some [1, 0]) false [
  oO 11 (.mov (.s 0)),
  oO 12 (.mov (.s 1)),
  oO 13 (.mov (.s 1)),
  oO 14 (.bin .other .add (.s 13) (.c (.one (.d (.int .i64 2))))),
  oO 15 (.sliceS (.s 11) (some (.s 12)) (some (.s 14))),
  oO 5 (.mov (.s 15))] none) (.seq (.reg (some [5, 1, 0]) false [
  oO 16 (.mov (.s 5))] none) (.block 0 (.seq (.seq (.reg (some [5, 1, 0, 16]) false [
  oO 18 (.bin .other .eql (.s 16) (.c (.one (.d (.str [61, 61]))))),
  oO 17 (.mov (.s 18))] none) (.cond (.s 17) .skip (.reg (some [5, 1, 0, 16]) false [
  oO 19 (.bin .other .eql (.s 16) (.c (.one (.d (.str [45, 62]))))),
  oO 17 (.mov (.s 19))] none))) (.cond (.s 17) (.seq (.reg (some [5]) false [
  oO 20 (.mov (.s 5)),
  oO 4 (.mov (.s 20))] none) .ret) .skip))))) .skip)) (.seq (.seq (.reg (some [1, 0]) false [
  oO 21 (.mov (.s 0)),
  oO 22 (.mov (.s 1)),
  oO 23 (.index (.s 21) (.s 22))] none) (.block 1 (.seq (.seq (.reg (some [1, 0, 23]) false [
  oO 25 (.bin .other .eql (.s 23) (.c (.one (.d (.int .u8 40))))),
  oO 24 (.mov (.s 25))] none) (.cond (.s 24) .skip (.seq (.reg (some [1, 0, 23]) false [
  oO 26 (.bin .other .eql (.s 23) (.c (.one (.d (.int .u8 41))))),
  oO 24 (.mov (.s 26))] none) (.cond (.s 24) .skip (.seq (.reg (some [1, 0, 23]) false [
  oO 27 (.bin .other .eql (.s 23) (.c (.one (.d (.int .u8 123))))),
  oO 24 (.mov (.s 27))] none) (.cond (.s 24) .skip (.seq (.reg (some [1, 0, 23]) false [
  oO 28 (.bin .other .eql (.s 23) (.c (.one (.d (.int .u8 125))))),
  oO 24 (.mov (.s 28))] none) (.cond (.s 24) .skip (.seq (.reg (some [1, 0, 23]) false [
  oO 29 (.bin .other .eql (.s 23) (.c (.one (.d (.int .u8 44))))),
  oO 24 (.mov (.s 29))] none) (.cond (.s 24) .skip (.seq (.reg (some [1, 0, 23]) false [
  oO 30 (.bin .other .eql (.s 23) (.c (.one (.d (.int .u8 59))))),
  oO 24 (.mov (.s 30))] none) (.cond (.s 24) .skip (.seq (.reg (some [1, 0, 23]) false [
  oO 31 (.bin .other .eql (.s 23) (.c (.one (.d (.int .u8 58))))),
  oO 24 (.mov (.s 31))] none) (.cond (.s 24) .skip (.seq (.reg (some [1, 0, 23]) false [
  oO 32 (.bin .other .eql (.s 23) (.c (.one (.d (.int .u8 46))))),
  oO 24 (.mov (.s 32))] none) (.cond (.s 24) .skip (.seq (.reg (some [1, 0, 23]) false [
  oO 33 (.bin .other .eql (.s 23) (.c (.one (.d (.int .u8 61))))),
  oO 24 (.mov (.s 33))] none) (.cond (.s 24) .skip (.seq (.reg (some [1, 0, 23]) false [
  oO 34 (.bin .other .eql (.s 23) (.c (.one (.d (.int .u8 60))))),
  oO 24 (.mov (.s 34))] none) (.cond (.s 24) .skip (.seq (.reg (some [1, 0, 23]) false [
  oO 35 (.bin .other .eql (.s 23) (.c (.one (.d (.int .u8 43))))),
  oO 24 (.mov (.s 35))] none) (.cond (.s 24) .skip (.seq (.reg (some [1, 0, 23]) false [
  oO 36 (.bin .other .eql (.s 23) (.c (.one (.d (.int .u8 45))))),
  oO 24 (.mov (.s 36))] none) (.cond (.s 24) .skip (.seq (.reg (some [1, 0, 23]) false [
  oO 37 (.bin .other .eql (.s 23) (.c (.one (.d (.int .u8 42))))),
  oO 24 (.mov (.s 37))] none) (.cond (.s 24) .skip (.reg (some [1, 0, 23]) false [
  oO 38 (.bin .other .eql (.s 23) (.c (.one (.d (.int .u8 47))))),
  oO 24 (.mov (.s 38))] none))))))))))))))))))))))))))) (.cond (.s 24) (.seq (.reg (some [1, 0]) false [
  oO 39 (.mov (.s 0)),
  oO 40 (.mov (.s 1)),
  oO 41 (.mov (.s 1)),
  oO 42 (.bin .other .add (.s 41) (.c (.one (.d (.int .i64 1))))),
  oO 43 (.sliceS (.s 39) (some (.s 40)) (some (.s 42))),
  oO 4 (.mov (.s 43))] none) .ret) .skip)))) (.seq (.reg (some []) false [
  oO 4 (.mov (.c (.one (.d (.str [])))))] none) .ret)))), true⟩
def an23 : Ann := ⟨lkN [], resT, imB, noB⟩
def hint24 : Hint := ⟨50, 5, [], [], [(0, (some [0, 1]), false), (1, (some [0, 1]), false)]⟩
def k24 : KFunc := ⟨50, [.slot 4], (.seq (.reg (some [0, 1]) false [
  oO 4 (.mov (.c (.one (.d (.bool false)))))] none) (.seq (.reg (some [0, 1]) false [
  oO 5 (.mov (.s 0)),
  oO 6 (.call (.f 8) [(false, (.s 5))]),
  oO 7 (.mov (.s 6)),
  oT 8 7 (.mov (.s 0)),
  oT 9 7 (.nilck (.s 8)),
  oT 10 7 (.fieldA 0 (.s 9)),
  oT 11 7 (.load 1 false (.s 10)),
  oT 12 7 (.mov (.s 0)),
  oT 13 7 (.nilck (.s 12)),
  oT 14 7 (.fieldA 1 (.s 13)),
  oT 15 7 (.load 1 false (.s 14)),
  oT 16 7 (.indexA 3 (.s 11) (.s 15)),
  oT 17 7 (.fieldA 1 (.s 16)),
  oT 18 7 (.load 1 false (.s 17)),
  oT 19 7 (.mov (.s 1)),
  oT 20 7 (.bin .other .eql (.s 18) (.s 19)),
  oO 21 (.pick (.s 7) (.s 20) (.c (.one (.d (.bool false))))),
  oO 22 (.mov (.s 21)),
  oT 23 22 (.mov (.s 0)),
  oT 24 22 (.nilck (.s 23)),
  oT 25 22 (.fieldA 0 (.s 24)),
  oT 26 22 (.load 1 false (.s 25)),
  oT 27 22 (.mov (.s 0)),
  oT 28 22 (.nilck (.s 27)),
  oT 29 22 (.fieldA 1 (.s 28)),
  oT 30 22 (.load 1 false (.s 29)),
  oT 31 22 (.indexA 3 (.s 26) (.s 30)),
  oT 32 22 (.fieldA 0 (.s 31)),
  oT 33 22 (.load 1 false (.s 32)),
  oT 34 22 (.bin .other .eql (.s 33) (.c (.one (.d (.int .i64 0))))),
  oT 35 22 (.mov (.s 34)),
  oF 36 35 (.mov (.s 0)),
  oF 37 35 (.nilck (.s 36)),
  oF 38 35 (.fieldA 0 (.s 37)),
  oF 39 35 (.load 1 false (.s 38)),
  oF 40 35 (.mov (.s 0)),
  oF 41 35 (.nilck (.s 40)),
  oF 42 35 (.fieldA 1 (.s 41)),
  oF 43 35 (.load 1 false (.s 42)),
  oF 44 35 (.indexA 3 (.s 39) (.s 43)),
  oF 45 35 (.fieldA 0 (.s 44)),
  oF 46 35 (.load 1 false (.s 45)),
  oF 47 35 (.bin .other .eql (.s 46) (.c (.one (.d (.int .i64 3))))),
  oT 48 22 (.pick (.s 35) (.c (.one (.d (.bool true)))) (.s 47)),
  oO 49 (.pick (.s 22) (.s 48) (.c (.one (.d (.bool false))))),
  oO 4 (.mov (.s 49))] (some [(3, 7), (4, 7), (5, 7), (6, 7), (3, 8), (4, 8), (5, 8), (6, 8), (3, 9), (4, 9), (5, 9), (6, 9), (3, 10), (4, 10), (5, 10), (6, 10), (3, 14), (4, 14), (5, 14), (6, 14), (7, 14), (8, 14), (9, 14), (10, 14), (11, 14), (12, 14), (13, 14), (18, 22), (19, 22), (20, 22), (21, 22), (18, 23), (19, 23), (20, 23), (21, 23), (18, 24), (19, 24), (20, 24), (21, 24), (18, 25), (19, 25), (20, 25), (21, 25), (31, 35), (32, 35), (33, 35), (34, 35), (31, 36), (32, 36), (33, 36), (34, 36), (31, 37), (32, 37), (33, 37), (34, 37), (31, 38), (32, 38), (33, 38), (34, 38)])) .ret)), true⟩
def an24 : Ann := ⟨lkN [(11, [.im 3]), (15, [.int .i64]), (18, [.str]), (26, [.im 3]), (30, [.int .i64]), (33, [.int .i64]), (39, [.im 3]), (43, [.int .i64]), (46, [.int .i64])], resT, imB, noB⟩
def hint25 : Hint := ⟨27, 3, [], [], [(0, (some [0]), false), (1, (some [0]), false), (2, (some [0]), false), (3, (some []), false), (4, (some [0]), false), (5, (some [0]), false)]⟩
def k25 : KFunc := ⟨27, [.slot 2], (.seq (.reg (some [0]) false [
  oO 2 (.mov (.c (.one (.d (.str [])))))] none) (.seq (.seq (.reg (some [0]) false [
  oO 3 (.mov (.s 0)),
  oO 4 (.call (.f 36) [(false, (.s 3))]),
  oO 5 (.un .not (.s 4))] none) (.cond (.s 5) (.seq (.reg (some [0]) false [
  oO 6 (.mov (.s 0)),
  oO 7 (.call (.f 13) [(false, (.s 6))])] none) (.seq (.reg (some []) false [
  oO 2 (.mov (.c (.one (.d (.str [])))))] none) .ret)) .skip)) (.seq (.reg (some [0]) false [
  oO 8 (.mov (.s 0)),
  oO 9 (.nilck (.s 8)),
  oO 10 (.fieldA 1 (.s 9)),
  oO 11 (.load 1 false (.s 10)),
  oO 12 (.bin .other .add (.s 11) (.c (.one (.d (.int .i64 1))))),
  oO 13 (.nilck (.s 8)),
  oO 14 (.fieldA 1 (.s 13)),
  oN (.store false 1 (.s 14) (.s 12))] none) (.seq (.reg (some [0]) false [
  oO 15 (.mov (.s 0)),
  oO 16 (.nilck (.s 15)),
  oO 17 (.fieldA 0 (.s 16)),
  oO 18 (.load 1 false (.s 17)),
  oO 19 (.mov (.s 0)),
  oO 20 (.nilck (.s 19)),
  oO 21 (.fieldA 1 (.s 20)),
  oO 22 (.load 1 false (.s 21)),
  oO 23 (.bin .other .sub (.s 22) (.c (.one (.d (.int .i64 1))))),
  oO 24 (.indexA 3 (.s 18) (.s 23)),
  oO 25 (.fieldA 1 (.s 24)),
  oO 26 (.load 1 false (.s 25)),
  oO 2 (.mov (.s 26))] (some [(0, 4), (1, 4), (2, 4), (3, 4), (0, 5), (1, 5), (2, 5), (3, 5), (0, 6), (1, 6), (2, 6), (3, 6), (0, 7), (1, 7), (2, 7), (3, 7), (0, 8), (1, 8), (2, 8), (3, 8)])) .ret)))), true⟩
def an25 : Ann := ⟨lkN [(11, [.int .i64]), (14, [.int .i64]), (18, [.im 3]), (22, [.int .i64]), (26, [.str])], resT, imB, noB⟩
def hint26 : Hint := ⟨10, 4, [], [], [(0, (some [0, 1]), false), (1, (some [0]), false)]⟩
def k26 : KFunc := ⟨10, [], (.seq (.reg (some [0, 1]) false [
  oO 4 (.mov (.s 0)),
  oO 5 (.mov (.s 1)),
  oO 6 (.call (.f 9) [(false, (.s 4)), (false, (.s 5))]),
  oO 7 (.un .not (.s 6))] none) (.cond (.s 7) (.reg (some [0]) false [
  oO 8 (.mov (.s 0)),
  oO 9 (.call (.f 13) [(false, (.s 8))])] none) .skip)), true⟩
def an26 : Ann := ⟨lkN [], resT, imB, noB⟩
def hint27 : Hint := ⟨67, 7, [], [], [(0, (some [0, 1]), false), (1, (some [0, 1]), false), (2, (some [0, 1]), false), (3, (some [5, 0, 1, 6]), false), (4, (some [5, 0]), false), (5, (some [5]), false), (6, (some [0]), false), (7, (some []), false)]⟩
def k27 : KFunc := ⟨67, [.slot 4], (.seq (.reg (some [0, 1]) false [
  oO 4 (.mov (.c (.one (.d (.int .i64 0)))))] none) (.seq (.seq (.reg (some [0, 1]) false [
  oO 7 (.mov (.s 0)),
  oO 8 (.call (.f 8) [(false, (.s 7))]),
  oO 9 (.mov (.s 8)),
  oT 10 9 (.mov (.s 0)),
  oT 11 9 (.nilck (.s 10)),
  oT 12 9 (.fieldA 0 (.s 11)),
  oT 13 9 (.load 1 false (.s 12)),
  oT 14 9 (.mov (.s 0)),
  oT 15 9 (.nilck (.s 14)),
  oT 16 9 (.fieldA 1 (.s 15)),
  oT 17 9 (.load 1 false (.s 16)),
  oT 18 9 (.indexA 3 (.s 13) (.s 17)),
  oT 19 9 (.fieldA 0 (.s 18)),
  oT 20 9 (.load 1 false (.s 19)),
  oT 21 9 (.bin .other .eql (.s 20) (.c (.one (.d (.int .i64 1))))),
  oO 22 (.pick (.s 9) (.s 21) (.c (.one (.d (.bool false)))))] (some [(3, 7), (4, 7), (5, 7), (6, 7), (3, 8), (4, 8), (5, 8), (6, 8), (3, 9), (4, 9), (5, 9), (6, 9), (3, 10), (4, 10), (5, 10), (6, 10)])) (.cond (.s 22) (.seq (.reg (some [0, 1]) false [
  oO 24 (.mov (.s 0)),
  oO 25 (.nilck (.s 24)),
  oO 26 (.fieldA 0 (.s 25)),
  oO 27 (.load 1 false (.s 26)),
  oO 28 (.mov (.s 0)),
  oO 29 (.nilck (.s 28)),
  oO 30 (.fieldA 1 (.s 29)),
  oO 31 (.load 1 false (.s 30)),
  oO 32 (.indexA 3 (.s 27) (.s 31)),
  oO 33 (.fieldA 1 (.s 32)),
  oO 34 (.load 1 false (.s 33)),
  oO 35 (.call (.f 37) [(false, (.s 34))]),
  oO 23 (.mov (.s 35)),
  oO 36 (.extract 0 (.s 23)),
  oO 37 (.extract 1 (.s 23)),
  oO 5 (.mov (.s 36)),
  oO 6 (.mov (.s 37))] (some [(0, 4), (1, 4), (2, 4), (3, 4), (0, 5), (1, 5), (2, 5), (3, 5), (0, 6), (1, 6), (2, 6), (3, 6), (0, 7), (1, 7), (2, 7), (3, 7), (13, 14), (14, 15)])) (.seq (.reg (some [5, 0, 1, 6]) false [
  oO 38 (.mov (.s 6)),
  oO 39 (.bin .iface .eql (.s 38) (.c (.one .nili))),
  oO 40 (.mov (.s 39)),
  oT 41 40 (.mov (.s 5)),
  oT 42 40 (.bin .other .geq (.s 41) (.c (.one (.d (.int .i64 0))))),
  oO 43 (.pick (.s 40) (.s 42) (.c (.one (.d (.bool false))))),
  oO 44 (.mov (.s 43)),
  oT 45 44 (.mov (.s 5)),
  oT 46 44 (.bin .other .leq (.s 45) (.c (.one (.d (.int .i64 999))))),
  oO 47 (.pick (.s 44) (.s 46) (.c (.one (.d (.bool false))))),
  oO 48 (.mov (.s 47)),
  oT 49 48 (.mov (.s 1)),
  oT 50 48 (.bin .other .lss (.s 49) (.c (.one (.d (.int .i64 0))))),
  oT 51 48 (.mov (.s 50)),
  oF 52 51 (.mov (.s 5)),
  oF 53 51 (.mov (.s 1)),
  oF 54 51 (.bin .other .eql (.s 52) (.s 53)),
  oT 55 48 (.pick (.s 51) (.c (.one (.d (.bool true)))) (.s 54)),
  oO 56 (.pick (.s 48) (.s 55) (.c (.one (.d (.bool false)))))] none) (.cond (.s 56) (.seq (.reg (some [5, 0]) false [
  oO 57 (.mov (.s 0)),
  oO 58 (.nilck (.s 57)),
  oO 59 (.fieldA 1 (.s 58)),
  oO 60 (.load 1 false (.s 59)),
  oO 61 (.bin .other .add (.s 60) (.c (.one (.d (.int .i64 1))))),
  oO 62 (.nilck (.s 57)),
  oO 63 (.fieldA 1 (.s 62)),
  oN (.store false 1 (.s 63) (.s 61))] none) (.seq (.reg (some [5]) false [
  oO 64 (.mov (.s 5)),
  oO 4 (.mov (.s 64))] none) .ret)) .skip))) .skip)) (.seq (.reg (some [0]) false [
  oO 65 (.mov (.s 0)),
  oO 66 (.call (.f 13) [(false, (.s 65))])] none) (.seq (.reg (some []) false [
  oO 4 (.mov (.c (.one (.d (.int .i64 0)))))] none) .ret)))), true⟩
def an27 : Ann := ⟨lkN [(13, [.im 3]), (17, [.int .i64]), (20, [.int .i64]), (27, [.im 3]), (31, [.int .i64]), (34, [.str]), (60, [.int .i64]), (63, [.int .i64])], resT, imB, noB⟩
def hint28 : Hint := ⟨49, 5, [], [], [(0, (some [0]), false), (1, (some [0]), false), (2, (some [0, 3]), false), (3, (some [0, 3]), true), (4, (some [0, 3]), false), (5, (some [0, 4, 3]), false), (6, (some [0, 4, 3]), false), (7, (some [0, 4, 3]), false), (8, (some [0, 4, 3]), false), (9, (some [0, 4, 3]), false), (10, (some [3, 0]), false), (11, (some [3, 0]), false), (12, (some [3]), false)]⟩
def k28_c0 : KCode := (.seq (.reg (some [3, 0]) false [
  oO 44 (.mov (.s 0)),
  oO 45 (.nilck (.s 44)),
  oO 46 (.fieldA 0 (.s 45)),
  oO 47 (.call (.f 26) [(false, (.t 46)), (false, (.c (.one (.d (.str [125])))))])] none) (.seq (.reg (some [3]) false [
  oO 48 (.mov (.s 3)),
  oO 2 (.mov (.t 48))] none) .ret))
def k28_b0 : KCode := (.seq (.seq (.reg none false [
  oO 9 (.mov (.s 0)),
  oO 10 (.nilck (.s 9)),
  oO 11 (.fieldA 0 (.s 10)),
  oO 12 (.call (.f 14) [(false, (.t 11))]),
  oO 13 (.un .not (.s 12))] none) (.cond (.s 13) .skip (.exit 0))) (.block 1 (.seq (.reg (some [0, 3]) false [
  oO 14 (.mov (.s 0)),
  oO 15 (.nilck (.s 14)),
  oO 16 (.fieldA 0 (.s 15)),
  oO 17 (.call (.f 25) [(false, (.t 16))]),
  oO 18 (.build [(.d (.str [])), (.d (.int .i64 0)), (.d (.str [])), (.d (.int .i64 0))] [(0, 1, (.s 17))]),
  oO 4 (.alloc [(.d (.str [])), (.d (.int .i64 0)), (.d (.str [])), (.d (.int .i64 0))]),
  oN (.store false 4 (.s 4) (.s 18))] none) (.seq (.reg (some [0, 4, 3]) false [
  oO 19 (.mov (.s 0)),
  oO 20 (.nilck (.s 19)),
  oO 21 (.fieldA 0 (.s 20)),
  oO 22 (.call (.f 26) [(false, (.t 21)), (false, (.c (.one (.d (.str [40])))))])] none) (.seq (.reg (some [0, 4, 3]) false [
  oO 23 (.mov (.s 0)),
  oO 24 (.call (.f 29) [(false, (.s 23))]),
  oO 25 (.fieldA 1 (.s 4)),
  oN (.store false 2 (.s 25) (.s 24))] none) (.seq (.reg (some [0, 4, 3]) false [
  oO 26 (.mov (.s 0)),
  oO 27 (.nilck (.s 26)),
  oO 28 (.fieldA 0 (.s 27)),
  oO 29 (.call (.f 26) [(false, (.t 28)), (false, (.c (.one (.d (.str [41])))))])] none) (.seq (.reg (some [0, 4, 3]) false [
  oO 30 (.mov (.s 0)),
  oO 31 (.nilck (.s 30)),
  oO 32 (.fieldA 0 (.s 31)),
  oO 33 (.call (.f 27) [(false, (.t 32)), (false, (.c (.one (.d (.int .i64 (-1))))))]),
  oO 34 (.fieldA 3 (.s 4)),
  oN (.store false 1 (.s 34) (.s 33))] none) (.seq (.reg (some [0, 4, 3]) false [
  oO 35 (.mov (.s 3)),
  oO 36 (.load 4 true (.s 4)),
  oO 37 (.bslice 4 [[(.str []), (.int .i64 0), (.str []), (.int .i64 0)]] [(0, (.s 36))]),
  oO 38 (.app 4 48 (.t 35) (.t 37)),
  oO 3 (.mov (.t 38))] none) (.seq (.reg (some [3, 0]) false [
  oO 39 (.mov (.s 0)),
  oO 40 (.nilck (.s 39)),
  oO 41 (.fieldA 0 (.s 40)),
  oO 42 (.call (.f 9) [(false, (.t 41)), (false, (.c (.one (.d (.str [44])))))]),
  oO 43 (.un .not (.s 42))] none) (.cond (.s 43) (.exit 0) .skip))))))))))
def k28 : KFunc := ⟨49, [.slot 2], (.seq (.reg (some [0]) false [
  oO 2 (.mov (.c (.one (.d (.sl (.im true) 4 [])))))] none) (.seq (.reg (some [0]) false [
  oO 3 (.mov (.c (.one (.d (.sl (.im true) 4 [])))))] none) (.seq (.reg (some [0, 3]) false [
  oO 5 (.mov (.s 0)),
  oO 6 (.nilck (.s 5)),
  oO 7 (.fieldA 0 (.s 6)),
  oO 8 (.call (.f 26) [(false, (.t 7)), (false, (.c (.one (.d (.str [123])))))])] none) (.seq (.block 0 (.loop 0 (some [0, 3]) true k28_b0)) k28_c0)))), true⟩
def an28 : Ann := ⟨lkN [(4, [.str, .int .i64, .str, .int .i64]), (25, [.int .i64, .str]), (34, [.int .i64]), (36, [.str, .int .i64, .str, .int .i64])], resT, imB, noB⟩
def h28_0 (Cl : Oracle) (n : Nat) (bx : List (List C)) (m0 : Nat) (S : Go.Abs.St) : Option (V × List (List C)) := iterK 0 (evCA an28 Cl n k28_b0) (some [0, 3]) true m0 S (blockK 0 (seqK (evCA an28 Cl n k28_c0) (retK [.slot 2] true bx)))
def hint29 : Hint := ⟨57, 4, [2], [], [(0, (some [0]), false), (1, (some [2, 0]), false), (2, (some [2]), false), (3, (some [2, 0]), false), (4, (some [2]), false), (5, (some [2, 0]), false), (6, (some [2]), false), (7, (some [2, 0]), false), (8, (some [2]), false), (9, (some [2, 0]), false), (10, (some [2]), false), (11, (some [2, 0]), false), (12, (some [2, 0]), false), (13, (some [2, 3, 0]), false), (14, (some [2, 3, 0]), false), (15, (some [2, 3]), false)]⟩
def k29 : KFunc := ⟨57, [.cell 2 2 true], (.seq (.reg (some [0]) false [
  oO 2 (.alloc [(.d (.int .i64 0)), (.d (.str []))])] none) (.seq (.block 0 (.seq (.reg (some [2, 0]) false [
  oO 5 (.mov (.s 0)),
  oO 6 (.nilck (.s 5)),
  oO 7 (.fieldA 0 (.s 6)),
  oO 8 (.call (.f 9) [(false, (.t 7)), (false, (.c (.one (.d (.str [117, 110, 105, 116])))))]),
  oO 4 (.mov (.s 8))] none) (.cond (.s 4) (.seq (.reg (some [2]) false [
  oO 9 (.build [(.d (.int .i64 0)), (.d (.str []))] []),
  oN (.store true 2 (.s 2) (.s 9))] none) .ret) (.seq (.reg (some [2, 0]) false [
  oO 11 (.mov (.s 0)),
  oO 12 (.nilck (.s 11)),
  oO 13 (.fieldA 0 (.s 12)),
  oO 14 (.call (.f 9) [(false, (.t 13)), (false, (.c (.one (.d (.str [105, 110, 116])))))]),
  oO 10 (.mov (.s 14))] none) (.cond (.s 10) (.seq (.reg (some [2]) false [
  oO 15 (.build [(.d (.int .i64 0)), (.d (.str []))] [(0, 1, (.c (.one (.d (.int .i64 1)))))]),
  oN (.store true 2 (.s 2) (.s 15))] none) .ret) (.seq (.reg (some [2, 0]) false [
  oO 17 (.mov (.s 0)),
  oO 18 (.nilck (.s 17)),
  oO 19 (.fieldA 0 (.s 18)),
  oO 20 (.call (.f 9) [(false, (.t 19)), (false, (.c (.one (.d (.str [98, 111, 111, 108])))))]),
  oO 16 (.mov (.s 20))] none) (.cond (.s 16) (.seq (.reg (some [2]) false [
  oO 21 (.build [(.d (.int .i64 0)), (.d (.str []))] [(0, 1, (.c (.one (.d (.int .i64 2)))))]),
  oN (.store true 2 (.s 2) (.s 21))] none) .ret) (.seq (.reg (some [2, 0]) false [
  oO 23 (.mov (.s 0)),
  oO 24 (.nilck (.s 23)),
  oO 25 (.fieldA 0 (.s 24)),
  oO 26 (.call (.f 9) [(false, (.t 25)), (false, (.c (.one (.d (.str [116, 101, 120, 116])))))]),
  oO 22 (.mov (.s 26))] none) (.cond (.s 22) (.seq (.reg (some [2]) false [
  oO 27 (.build [(.d (.int .i64 0)), (.d (.str []))] [(0, 1, (.c (.one (.d (.int .i64 3)))))]),
  oN (.store true 2 (.s 2) (.s 27))] none) .ret) (.seq (.reg (some [2, 0]) false [
  oO 29 (.mov (.s 0)),
  oO 30 (.nilck (.s 29)),
  oO 31 (.fieldA 0 (.s 30)),
  oO 32 (.call (.f 9) [(false, (.t 31)), (false, (.c (.one (.d (.str [108, 105, 115, 116])))))]),
  oO 28 (.mov (.s 32))] none) (.cond (.s 28) (.seq (.reg (some [2]) false [
  oO 33 (.build [(.d (.int .i64 0)), (.d (.str []))] [(0, 1, (.c (.one (.d (.int .i64 4)))))]),
  oN (.store true 2 (.s 2) (.s 33))] none) .ret) .skip))))))))))) (.seq (.reg (some [2, 0]) false [
  oO 34 (.mov (.s 0)),
  oO 35 (.nilck (.s 34)),
  oO 36 (.fieldA 0 (.s 35)),
  oO 37 (.call (.f 26) [(false, (.t 36)), (false, (.c (.one (.d (.str [99, 104, 97, 110])))))])] none) (.seq (.reg (some [2, 0]) false [
  oO 38 (.mov (.s 0)),
  oO 39 (.nilck (.s 38)),
  oO 40 (.fieldA 0 (.s 39)),
  oO 41 (.call (.f 25) [(false, (.t 40))]),
  oO 42 (.build [(.d (.int .i64 0)), (.d (.str []))] [(0, 1, (.c (.one (.d (.int .i64 5))))), (1, 1, (.s 41))]),
  oO 3 (.alloc [(.d (.int .i64 0)), (.d (.str []))]),
  oN (.store false 2 (.s 3) (.s 42))] none) (.seq (.seq (.reg (some [2, 3, 0]) false [
  oO 43 (.mov (.s 0)),
  oO 44 (.nilck (.s 43)),
  oO 45 (.fieldA 0 (.s 44)),
  oO 46 (.call (.f 9) [(false, (.t 45)), (false, (.c (.one (.d (.str [46])))))])] none) (.cond (.s 46) (.reg (some [2, 3, 0]) false [
  oO 47 (.fieldA 1 (.s 3)),
  oO 48 (.load 1 false (.s 47)),
  oO 49 (.bin .other .add (.s 48) (.c (.one (.d (.str [46]))))),
  oO 50 (.mov (.s 0)),
  oO 51 (.nilck (.s 50)),
  oO 52 (.fieldA 0 (.s 51)),
  oO 53 (.call (.f 25) [(false, (.t 52))]),
  oO 54 (.bin .other .add (.s 49) (.s 53)),
  oO 55 (.fieldA 1 (.s 3)),
  oN (.store false 1 (.s 55) (.s 54))] (some [(0, 3), (1, 3), (2, 3), (0, 4), (1, 4), (2, 4), (0, 5), (1, 5), (2, 5), (0, 6), (1, 6), (2, 6)])) .skip)) (.seq (.reg (some [2, 3]) false [
  oO 56 (.load 2 true (.s 3)),
  oN (.store true 2 (.s 2) (.s 56))] none) .ret)))))), true⟩
def an29 : Ann := ⟨lkN [(2, [.int .i64, .str]), (2, [.int .i64, .str]), (2, [.int .i64, .str]), (2, [.int .i64, .str]), (2, [.int .i64, .str]), (3, [.int .i64, .str]), (48, [.str]), (55, [.str]), (56, [.int .i64, .str]), (2, [.int .i64, .str])], resT, imB, noB⟩
def hint30 : Hint := ⟨21, 4, [], [], [(0, (some [0]), false), (1, (some [0]), false), (2, (some [0]), false), (3, (some [3, 0]), false), (4, (some [3, 0]), false), (5, (some [3]), false)]⟩
def k30 : KFunc := ⟨21, [.slot 2], (.seq (.reg (some [0]) false [
  oO 2 (.mov (.c (.one (.d (.int .i64 0)))))] none) (.seq (.reg (some [0]) false [
  oO 4 (.mov (.s 0)),
  oO 5 (.nilck (.s 4)),
  oO 6 (.fieldA 0 (.s 5)),
  oO 7 (.call (.f 26) [(false, (.t 6)), (false, (.c (.one (.d (.str [123])))))])] none) (.seq (.reg (some [0]) false [
  oO 8 (.mov (.s 0)),
  oO 9 (.nilck (.s 8)),
  oO 10 (.fieldA 4 (.s 9)),
  oO 11 (.fieldA 3 (.s 10)),
  oO 12 (.load 1 false (.s 11)),
  oO 13 (.len false (.s 12)),
  oO 3 (.mov (.s 13))] none) (.seq (.reg (some [3, 0]) false [
  oO 14 (.mov (.s 0)),
  oO 15 (.call (.f 38) [(false, (.s 14))])] none) (.seq (.reg (some [3, 0]) false [
  oO 16 (.mov (.s 0)),
  oO 17 (.nilck (.s 16)),
  oO 18 (.fieldA 0 (.s 17)),
  oO 19 (.call (.f 26) [(false, (.t 18)), (false, (.c (.one (.d (.str [125])))))])] none) (.seq (.reg (some [3]) false [
  oO 20 (.mov (.s 3)),
  oO 2 (.mov (.s 20))] none) .ret)))))), true⟩
def an30 : Ann := ⟨lkN [(12, [.im 10])], resT, imB, noB⟩
def hint31 : Hint := ⟨46, 3, [], [], [(0, (some [0]), false), (1, (some [0]), false), (2, (some [3]), false), (3, (some [3]), false), (4, (some [3]), false), (5, (some [3]), false), (6, (some [3]), false), (7, (some [3]), false), (8, (some [3]), false), (9, (some [3]), false), (10, (some [3]), false), (11, (some [3]), false), (12, (some [3]), false), (13, (some [3]), false), (14, (some [3]), false), (15, (some []), false), (16, (some [3]), false), (17, (some [3]), false), (18, (some [3]), false), (19, (some [3]), false), (20, (some [3]), false), (21, (some [3]), false), (22, (some [3]), false), (23, (some [3]), false), (24, (some [3]), false), (25, (some [3]), false), (26, (some [3]), false), (27, (some [3]), false), (28, (some [3]), false), (29, (some []), false), (30, (some [3]), false), (31, (some [3]), false), (32, (some [3]), false), (33, (some [3]), false), (34, (some [3]), false), (35, (some [3]), false), (36, (some [3]), false), (37, (some [3]), false), (38, (some [3]), false), (39, (some [3]), false), (40, (some [3]), false), (41, (some [3]), false), (42, (some [3]), false), (43, (some []), false), (44, (some []), false)]⟩
def k31 : KFunc := ⟨46, [.slot 2], (.seq (.reg (some [0]) false [
  oO 2 (.mov (.c (.one (.d (.bool false)))))] none) (.seq (.seq (.reg (some [0]) false [
  oO 3 (.mov (.s 0))] none) (.block 0 (.seq (.seq (.reg (some [3]) false [
  oO 5 (.bin .other .eql (.s 3) (.c (.one (.d (.str [97, 110, 100]))))),
  oO 4 (.mov (.s 5))] none) (.cond (.s 4) .skip (.seq (.reg (some [3]) false [
  oO 6 (.bin .other .eql (.s 3) (.c (.one (.d (.str [97, 115]))))),
  oO 4 (.mov (.s 6))] none) (.cond (.s 4) .skip (.seq (.reg (some [3]) false [
  oO 7 (.bin .other .eql (.s 3) (.c (.one (.d (.str [97, 116]))))),
  oO 4 (.mov (.s 7))] none) (.cond (.s 4) .skip (.seq (.reg (some [3]) false [
  oO 8 (.bin .other .eql (.s 3) (.c (.one (.d (.str [98, 111, 111, 108]))))),
  oO 4 (.mov (.s 8))] none) (.cond (.s 4) .skip (.seq (.reg (some [3]) false [
  oO 9 (.bin .other .eql (.s 3) (.c (.one (.d (.str [99, 97, 108, 108]))))),
  oO 4 (.mov (.s 9))] none) (.cond (.s 4) .skip (.seq (.reg (some [3]) false [
  oO 10 (.bin .other .eql (.s 3) (.c (.one (.d (.str [99, 104, 97, 110]))))),
  oO 4 (.mov (.s 10))] none) (.cond (.s 4) .skip (.seq (.reg (some [3]) false [
  oO 11 (.bin .other .eql (.s 3) (.c (.one (.d (.str [100, 114, 111, 112]))))),
  oO 4 (.mov (.s 11))] none) (.cond (.s 4) .skip (.seq (.reg (some [3]) false [
  oO 12 (.bin .other .eql (.s 3) (.c (.one (.d (.str [101, 108, 115, 101]))))),
  oO 4 (.mov (.s 12))] none) (.cond (.s 4) .skip (.seq (.reg (some [3]) false [
  oO 13 (.bin .other .eql (.s 3) (.c (.one (.d (.str [101, 109, 112, 116, 121]))))),
  oO 4 (.mov (.s 13))] none) (.cond (.s 4) .skip (.seq (.reg (some [3]) false [
  oO 14 (.bin .other .eql (.s 3) (.c (.one (.d (.str [101, 110, 100]))))),
  oO 4 (.mov (.s 14))] none) (.cond (.s 4) .skip (.seq (.reg (some [3]) false [
  oO 15 (.bin .other .eql (.s 3) (.c (.one (.d (.str [102, 97, 105, 108]))))),
  oO 4 (.mov (.s 15))] none) (.cond (.s 4) .skip (.seq (.reg (some [3]) false [
  oO 16 (.bin .other .eql (.s 3) (.c (.one (.d (.str [102, 97, 108, 115, 101]))))),
  oO 4 (.mov (.s 16))] none) (.cond (.s 4) .skip (.reg (some [3]) false [
  oO 17 (.bin .other .eql (.s 3) (.c (.one (.d (.str [102, 114, 111, 109]))))),
  oO 4 (.mov (.s 17))] none))))))))))))))))))))))))) (.cond (.s 4) (.seq (.reg (some []) false [
  oO 2 (.mov (.c (.one (.d (.bool true)))))] none) .ret) (.seq (.seq (.reg (some [3]) false [
  oO 19 (.bin .other .eql (.s 3) (.c (.one (.d (.str [104, 101, 97, 114]))))),
  oO 18 (.mov (.s 19))] none) (.cond (.s 18) .skip (.seq (.reg (some [3]) false [
  oO 20 (.bin .other .eql (.s 3) (.c (.one (.d (.str [105, 102]))))),
  oO 18 (.mov (.s 20))] none) (.cond (.s 18) .skip (.seq (.reg (some [3]) false [
  oO 21 (.bin .other .eql (.s 3) (.c (.one (.d (.str [105, 110, 116]))))),
  oO 18 (.mov (.s 21))] none) (.cond (.s 18) .skip (.seq (.reg (some [3]) false [
  oO 22 (.bin .other .eql (.s 3) (.c (.one (.d (.str [106, 111, 105, 110]))))),
  oO 18 (.mov (.s 22))] none) (.cond (.s 18) .skip (.seq (.reg (some [3]) false [
  oO 23 (.bin .other .eql (.s 3) (.c (.one (.d (.str [108, 101, 110]))))),
  oO 18 (.mov (.s 23))] none) (.cond (.s 18) .skip (.seq (.reg (some [3]) false [
  oO 24 (.bin .other .eql (.s 3) (.c (.one (.d (.str [108, 101, 116]))))),
  oO 18 (.mov (.s 24))] none) (.cond (.s 18) .skip (.seq (.reg (some [3]) false [
  oO 25 (.bin .other .eql (.s 3) (.c (.one (.d (.str [108, 105, 115, 116]))))),
  oO 18 (.mov (.s 25))] none) (.cond (.s 18) .skip (.seq (.reg (some [3]) false [
  oO 26 (.bin .other .eql (.s 3) (.c (.one (.d (.str [108, 111, 99, 97, 108]))))),
  oO 18 (.mov (.s 26))] none) (.cond (.s 18) .skip (.seq (.reg (some [3]) false [
  oO 27 (.bin .other .eql (.s 3) (.c (.one (.d (.str [108, 111, 115, 116]))))),
  oO 18 (.mov (.s 27))] none) (.cond (.s 18) .skip (.seq (.reg (some [3]) false [
  oO 28 (.bin .other .eql (.s 3) (.c (.one (.d (.str [109, 111, 100]))))),
  oO 18 (.mov (.s 28))] none) (.cond (.s 18) .skip (.seq (.reg (some [3]) false [
  oO 29 (.bin .other .eql (.s 3) (.c (.one (.d (.str [110, 111, 116]))))),
  oO 18 (.mov (.s 29))] none) (.cond (.s 18) .skip (.seq (.reg (some [3]) false [
  oO 30 (.bin .other .eql (.s 3) (.c (.one (.d (.str [111, 112, 101, 110]))))),
  oO 18 (.mov (.s 30))] none) (.cond (.s 18) .skip (.reg (some [3]) false [
  oO 31 (.bin .other .eql (.s 3) (.c (.one (.d (.str [111, 114]))))),
  oO 18 (.mov (.s 31))] none))))))))))))))))))))))))) (.cond (.s 18) (.seq (.reg (some []) false [
  oO 2 (.mov (.c (.one (.d (.bool true)))))] none) .ret) (.seq (.seq (.reg (some [3]) false [
  oO 33 (.bin .other .eql (.s 3) (.c (.one (.d (.str [112, 114, 105, 110, 116]))))),
  oO 32 (.mov (.s 33))] none) (.cond (.s 32) .skip (.seq (.reg (some [3]) false [
  oO 34 (.bin .other .eql (.s 3) (.c (.one (.d (.str [112, 114, 111, 99]))))),
  oO 32 (.mov (.s 34))] none) (.cond (.s 32) .skip (.seq (.reg (some [3]) false [
  oO 35 (.bin .other .eql (.s 3) (.c (.one (.d (.str [112, 114, 111, 116, 111, 99, 111, 108]))))),
  oO 32 (.mov (.s 35))] none) (.cond (.s 32) .skip (.seq (.reg (some [3]) false [
  oO 36 (.bin .other .eql (.s 3) (.c (.one (.d (.str [112, 117, 115, 104]))))),
  oO 32 (.mov (.s 36))] none) (.cond (.s 32) .skip (.seq (.reg (some [3]) false [
  oO 37 (.bin .other .eql (.s 3) (.c (.one (.d (.str [114, 111, 108, 101, 115]))))),
  oO 32 (.mov (.s 37))] none) (.cond (.s 32) .skip (.seq (.reg (some [3]) false [
  oO 38 (.bin .other .eql (.s 3) (.c (.one (.d (.str [115, 97, 121]))))),
  oO 32 (.mov (.s 38))] none) (.cond (.s 32) .skip (.seq (.reg (some [3]) false [
  oO 39 (.bin .other .eql (.s 3) (.c (.one (.d (.str [115, 112, 97, 119, 110]))))),
  oO 32 (.mov (.s 39))] none) (.cond (.s 32) .skip (.seq (.reg (some [3]) false [
  oO 40 (.bin .other .eql (.s 3) (.c (.one (.d (.str [115, 116, 111, 112]))))),
  oO 32 (.mov (.s 40))] none) (.cond (.s 32) .skip (.seq (.reg (some [3]) false [
  oO 41 (.bin .other .eql (.s 3) (.c (.one (.d (.str [116, 101, 120, 116]))))),
  oO 32 (.mov (.s 41))] none) (.cond (.s 32) .skip (.seq (.reg (some [3]) false [
  oO 42 (.bin .other .eql (.s 3) (.c (.one (.d (.str [116, 111]))))),
  oO 32 (.mov (.s 42))] none) (.cond (.s 32) .skip (.seq (.reg (some [3]) false [
  oO 43 (.bin .other .eql (.s 3) (.c (.one (.d (.str [116, 114, 117, 101]))))),
  oO 32 (.mov (.s 43))] none) (.cond (.s 32) .skip (.seq (.reg (some [3]) false [
  oO 44 (.bin .other .eql (.s 3) (.c (.one (.d (.str [117, 110, 105, 116]))))),
  oO 32 (.mov (.s 44))] none) (.cond (.s 32) .skip (.reg (some [3]) false [
  oO 45 (.bin .other .eql (.s 3) (.c (.one (.d (.str [119, 105, 116, 104]))))),
  oO 32 (.mov (.s 45))] none))))))))))))))))))))))))) (.cond (.s 32) (.seq (.reg (some []) false [
  oO 2 (.mov (.c (.one (.d (.bool true)))))] none) .ret) .skip)))))))) (.seq (.reg (some []) false [
  oO 2 (.mov (.c (.one (.d (.bool false)))))] none) .ret))), true⟩
def an31 : Ann := ⟨lkN [], resT, imB, noB⟩
def hint32 : Hint := ⟨25, 9, [], [], [(0, (some [2, 1, 0]), false), (1, (some [2, 1, 0]), false), (2, (some [7, 2, 1, 0, 8]), false), (3, (some [7, 2, 1, 0, 8]), false), (4, (some [8]), false)]⟩
def k32 : KFunc := ⟨25, [.slot 6, .slot 7], (.seq (.reg (some [2, 1, 0]) false [
  oO 6 (.mov (.c (.one (.d (.int .i64 0))))),
  oO 7 (.mov (.c (.one .nili)))] none) (.seq (.reg (some [2, 1, 0]) false [
  oO 10 (.mov (.s 0)),
  oO 11 (.mov (.s 1)),
  oO 12 (.mov (.s 2)),
  oO 13 (.call (.f 39) [(false, (.s 10)), (false, (.s 11)), (false, (.s 12))]),
  oO 9 (.mov (.s 13)),
  oO 14 (.extract 0 (.s 9)),
  oO 15 (.extract 1 (.s 9)),
  oO 8 (.mov (.s 14)),
  oO 7 (.mov (.s 15))] none) (.seq (.seq (.reg (some [7, 2, 1, 0, 8]) false [
  oO 16 (.mov (.s 7)),
  oO 17 (.bin .iface .neq (.s 16) (.c (.one .nili)))] none) (.cond (.s 17) (.seq (.reg (some [7, 2, 1, 0, 8]) false [
  oO 18 (.mov (.s 8)),
  oO 19 (.mov (.s 0)),
  oO 20 (.mov (.s 1)),
  oO 21 (.mov (.s 2)),
  oO 22 (.mov (.s 7)),
  oO 23 (.call (.f 40) [(false, (.c (.one (.d (.str [80, 97, 114, 115, 101, 73, 110, 116]))))), (false, (.s 19)), (false, (.s 20)), (false, (.s 21)), (false, (.s 22))]),
  oO 6 (.mov (.s 18)),
  oO 7 (.mov (.s 23))] none) .ret) .skip)) (.seq (.reg (some [8]) false [
  oO 24 (.mov (.s 8)),
  oO 6 (.mov (.s 24)),
  oO 7 (.mov (.c (.one .nili)))] none) .ret)))), true⟩
def an32 : Ann := ⟨lkN [], resT, imB, noB⟩
def hint36 : Hint := ⟨33, 3, [], [], [(0, (some [0]), false), (1, (some [0]), false)]⟩
def k36 : KFunc := ⟨33, [.slot 2], (.seq (.reg (some [0]) false [
  oO 2 (.mov (.c (.one (.d (.bool false)))))] none) (.seq (.reg (some [0]) false [
  oO 3 (.mov (.s 0)),
  oO 4 (.call (.f 8) [(false, (.s 3))]),
  oO 5 (.mov (.s 4)),
  oT 6 5 (.mov (.s 0)),
  oT 7 5 (.nilck (.s 6)),
  oT 8 5 (.fieldA 0 (.s 7)),
  oT 9 5 (.load 1 false (.s 8)),
  oT 10 5 (.mov (.s 0)),
  oT 11 5 (.nilck (.s 10)),
  oT 12 5 (.fieldA 1 (.s 11)),
  oT 13 5 (.load 1 false (.s 12)),
  oT 14 5 (.indexA 3 (.s 9) (.s 13)),
  oT 15 5 (.fieldA 0 (.s 14)),
  oT 16 5 (.load 1 false (.s 15)),
  oT 17 5 (.bin .other .eql (.s 16) (.c (.one (.d (.int .i64 0))))),
  oO 18 (.pick (.s 5) (.s 17) (.c (.one (.d (.bool false))))),
  oO 19 (.mov (.s 18)),
  oT 20 19 (.mov (.s 0)),
  oT 21 19 (.nilck (.s 20)),
  oT 22 19 (.fieldA 0 (.s 21)),
  oT 23 19 (.load 1 false (.s 22)),
  oT 24 19 (.mov (.s 0)),
  oT 25 19 (.nilck (.s 24)),
  oT 26 19 (.fieldA 1 (.s 25)),
  oT 27 19 (.load 1 false (.s 26)),
  oT 28 19 (.indexA 3 (.s 23) (.s 27)),
  oT 29 19 (.fieldA 1 (.s 28)),
  oT 30 19 (.load 1 false (.s 29)),
  oT 31 19 (.call (.f 41) [(false, (.s 30))]),
  oO 32 (.pick (.s 19) (.s 31) (.c (.one (.d (.bool false))))),
  oO 2 (.mov (.s 32))] (some [(3, 7), (4, 7), (5, 7), (6, 7), (3, 8), (4, 8), (5, 8), (6, 8), (3, 9), (4, 9), (5, 9), (6, 9), (3, 10), (4, 10), (5, 10), (6, 10), (17, 21), (18, 21), (19, 21), (20, 21), (17, 22), (18, 22), (19, 22), (20, 22), (17, 23), (18, 23), (19, 23), (20, 23), (17, 24), (18, 24), (19, 24), (20, 24)])) .ret)), true⟩
def an36 : Ann := ⟨lkN [(9, [.im 3]), (13, [.int .i64]), (16, [.int .i64]), (23, [.im 3]), (27, [.int .i64]), (30, [.str])], resT, imB, noB⟩
def hint37 : Hint := ⟨18, 6, [], [], [(0, (some [0]), false), (1, (some [0]), false), (2, (some [5, 0, 4]), false), (3, (some [5, 0, 4]), false), (4, (some [4]), false)]⟩
def k37 : KFunc := ⟨18, [.slot 2, .slot 3], (.seq (.reg (some [0]) false [
  oO 2 (.mov (.c (.one (.d (.int .i64 0))))),
  oO 3 (.mov (.c (.one .nili)))] none) (.seq (.reg (some [0]) false [
  oO 7 (.mov (.s 0)),
  oO 8 (.call (.f 42) [(false, (.s 7))]),
  oO 6 (.mov (.s 8)),
  oO 9 (.extract 0 (.s 6)),
  oO 10 (.extract 1 (.s 6)),
  oO 4 (.mov (.s 9)),
  oO 5 (.mov (.s 10))] none) (.seq (.seq (.reg (some [5, 0, 4]) false [
  oO 11 (.mov (.s 5)),
  oO 12 (.bin .iface .neq (.s 11) (.c (.one .nili)))] none) (.cond (.s 12) (.seq (.reg (some [5, 0, 4]) false [
  oO 13 (.mov (.s 4)),
  oO 14 (.mov (.s 0)),
  oO 15 (.mov (.s 5)),
  oO 16 (.call (.f 40) [(false, (.c (.one (.d (.str [65, 116, 111, 105]))))), (false, (.s 14)), (false, (.c (.one (.d (.int .i64 0))))), (false, (.c (.one (.d (.int .i64 0))))), (false, (.s 15))]),
  oO 2 (.mov (.s 13)),
  oO 3 (.mov (.s 16))] none) .ret) .skip)) (.seq (.reg (some [4]) false [
  oO 17 (.mov (.s 4)),
  oO 2 (.mov (.s 17)),
  oO 3 (.mov (.c (.one .nili)))] none) .ret)))), true⟩
def an37 : Ann := ⟨lkN [], resT, imB, noB⟩
def hint38 : Hint := ⟨51, 4, [], [], [(0, (some [0]), true), (1, (some [0]), false), (2, (some [0, 2]), false), (3, (some [0, 3, 2]), false), (4, (some [0, 3, 2]), false), (5, (some [0, 3, 2]), false), (6, (some [0, 3, 2]), false), (7, (some [3, 2, 0]), false), (8, (some [3, 2, 0]), false)]⟩
def k38_b0 : KCode := (.seq (.seq (.reg none false [
  oO 4 (.mov (.s 0)),
  oO 5 (.nilck (.s 4)),
  oO 6 (.fieldA 0 (.s 5)),
  oO 7 (.call (.f 14) [(false, (.t 6))]),
  oO 8 (.un .not (.s 7))] none) (.cond (.s 8) .skip (.exit 0))) (.block 1 (.seq (.reg (some [0]) false [
  oO 9 (.mov (.s 0)),
  oO 10 (.nilck (.s 9)),
  oO 11 (.fieldA 4 (.s 10)),
  oO 12 (.fieldA 3 (.s 11)),
  oO 13 (.load 1 false (.s 12)),
  oO 14 (.len false (.s 13)),
  oO 2 (.mov (.s 14))] none) (.seq (.reg (some [0, 2]) false [
  oO 15 (.build [(.d (.int .i64 0)), (.d (.str [])), (.d (.str [])), (.d (.str [])), (.d (.str [])), (.d (.int .i64 0)), (.d (.sl (.im true) 1 [])), (.d (.sl (.im true) 3 [])), (.d (.sl (.im true) 3 [])), (.d (.int .i64 0))] [(5, 1, (.c (.one (.d (.int .i64 (-1)))))), (9, 1, (.c (.one (.d (.int .i64 (-1))))))]),
  oO 3 (.alloc [(.d (.int .i64 0)), (.d (.str [])), (.d (.str [])), (.d (.str [])), (.d (.str [])), (.d (.int .i64 0)), (.d (.sl (.im true) 1 [])), (.d (.sl (.im true) 3 [])), (.d (.sl (.im true) 3 [])), (.d (.int .i64 0))]),
  oN (.store false 10 (.s 3) (.t 15))] none) (.seq (.reg (some [0, 3, 2]) false [
  oO 16 (.mov (.s 0)),
  oO 17 (.mov (.s 0)),
  oO 18 (.nilck (.s 17)),
  oO 19 (.fieldA 4 (.s 18)),
  oO 20 (.fieldA 3 (.s 19)),
  oO 21 (.load 1 false (.s 20)),
  oO 22 (.load 10 true (.s 3)),
  oO 23 (.bslice 10 [[(.int .i64 0), (.str []), (.str []), (.str []), (.str []), (.int .i64 0), (.sl (.im true) 1 []), (.sl (.im true) 3 []), (.sl (.im true) 3 []), (.int .i64 0)]] [(0, (.t 22))]),
  oO 24 (.app 10 160 (.t 21) (.t 23)),
  oO 25 (.nilck (.s 16)),
  oO 26 (.fieldA 4 (.s 25)),
  oO 27 (.fieldA 3 (.s 26)),
  oN (.store false 1 (.s 27) (.t 24))] (some [(0, 1), (0, 2), (0, 3), (0, 4), (0, 5), (0, 6), (1, 6), (2, 6), (3, 6), (4, 6), (5, 6), (0, 7), (1, 7), (2, 7), (3, 7), (4, 7), (5, 7), (0, 8)])) (.seq (.seq (.reg (some [0, 3, 2]) false [
  oO 28 (.mov (.s 0)),
  oO 29 (.call (.f 43) [(false, (.s 28)), (false, (.s 3))])] none) (.cond (.s 29) (.seq (.reg (some [0, 3, 2]) false [
  oO 30 (.mov (.s 2)),
  oO 31 (.bin .other .add (.s 30) (.c (.one (.d (.int .i64 1))))),
  oO 32 (.fieldA 9 (.s 3)),
  oN (.store false 1 (.s 32) (.s 31))] none) (.seq (.reg (some [0, 3, 2]) false [
  oO 33 (.mov (.s 0)),
  oO 34 (.nilck (.s 33)),
  oO 35 (.fieldA 4 (.s 34)),
  oO 36 (.fieldA 3 (.s 35)),
  oO 37 (.load 1 false (.s 36)),
  oO 38 (.mov (.s 2)),
  oO 39 (.load 10 true (.s 3)),
  oO 40 (.indexA 10 (.s 37) (.s 38)),
  oN (.store false 10 (.s 40) (.t 39))] (some [(0, 5), (1, 5), (2, 5), (3, 5), (4, 5), (0, 6), (1, 6), (2, 6), (3, 6), (4, 6), (5, 6)])) (.exit 1))) .skip)) (.seq (.reg (some [3, 2, 0]) false [
  oO 41 (.mov (.s 0)),
  oO 42 (.call (.f 44) [(false, (.s 41)), (false, (.s 3))])] none) (.seq (.reg (some [3, 2, 0]) false [
  oO 43 (.mov (.s 0)),
  oO 44 (.nilck (.s 43)),
  oO 45 (.fieldA 4 (.s 44)),
  oO 46 (.fieldA 3 (.s 45)),
  oO 47 (.load 1 false (.s 46)),
  oO 48 (.mov (.s 2)),
  oO 49 (.load 10 true (.s 3)),
  oO 50 (.indexA 10 (.s 47) (.s 48)),
  oN (.store false 10 (.s 50) (.t 49))] (some [(0, 5), (1, 5), (2, 5), (3, 5), (4, 5), (0, 6), (1, 6), (2, 6), (3, 6), (4, 6), (5, 6)])) .ret))))))))
def k38 : KFunc := ⟨51, [], (.block 0 (.loop 0 (some [0]) true k38_b0)), true⟩
def an38 : Ann := ⟨lkN [(13, [.im 10]), (3, [.int .i64, .str, .str, .str, .str, .int .i64, .im 1, .im 3, .im 3, .int .i64]), (21, [.im 10]), (22, [.int .i64, .str, .str, .str, .str, .int .i64, .im 1, .im 3, .im 3, .int .i64]), (27, [.im 10]), (32, [.int .i64]), (37, [.im 10]), (39, [.int .i64, .str, .str, .str, .str, .int .i64, .im 1, .im 3, .im 3, .int .i64]), (40, [.int .i64, .str, .str, .str, .str, .int .i64, .im 1, .im 3, .im 3, .int .i64]), (47, [.im 10]), (49, [.int .i64, .str, .str, .str, .str, .int .i64, .im 1, .im 3, .im 3, .int .i64]), (50, [.int .i64, .str, .str, .str, .str, .int .i64, .im 1, .im 3, .im 3, .int .i64])], resT, imB, noB⟩
def h38_0 (Cl : Oracle) (n : Nat) (bx : List (List C)) (m0 : Nat) (S : Go.Abs.St) : Option (V × List (List C)) := iterK 0 (evCA an38 Cl n k38_b0) (some [0]) true m0 S (blockK 0 (retK [] true bx))
def hint39 : Hint := ⟨73, 12, [], [], [(0, (some [2, 1, 0]), false), (1, (some [2, 1, 0]), false), (2, (some []), false), (3, (some [2, 1, 0]), false), (4, (some [8, 2, 1, 0]), false), (5, (some [8, 2, 1, 0, 16]), false), (6, (some [8, 2, 1, 0]), false), (7, (some [2, 1, 0, 8, 16]), false), (8, (some [2, 1, 0]), false), (9, (some [2, 1, 0]), false), (10, (some [8, 2, 1, 0]), false), (11, (some [8, 2, 1, 0]), false), (12, (some [7, 8, 9, 2]), false), (13, (some [7]), false), (14, (some [8, 9, 2]), false), (15, (some [8, 9]), false), (16, (some [8, 9, 2]), false), (17, (some [10, 8, 9]), false), (18, (some [10]), false), (19, (some [10, 8, 9]), false), (20, (some [10]), false), (21, (some [8, 9]), false), (22, (some [11, 8]), false), (23, (some [11]), false), (24, (some [11]), false)]⟩
def k39 : KFunc := ⟨73, [.slot 6, .slot 7], (.seq (.reg (some [2, 1, 0]) false [
  oO 6 (.mov (.c (.one (.d (.int .i64 0))))),
  oO 7 (.mov (.c (.one .nili)))] none) (.seq (.seq (.reg (some [2, 1, 0]) false [
  oO 12 (.mov (.s 0)),
  oO 13 (.bin .other .eql (.s 12) (.c (.one (.d (.str [])))))] none) (.cond (.s 13) (.seq (.reg (some []) false [
  oO 14 (.mkif (.c (.one (.d (.int .i64 2))))),
  oO 6 (.mov (.c (.one (.d (.int .i64 0))))),
  oO 7 (.mov (.s 14))] none) .ret) .skip)) (.seq (.reg (some [2, 1, 0]) false [
  oO 8 (.mov (.c (.one (.d (.bool false)))))] none) (.seq (.seq (.reg (some [8, 2, 1, 0]) false [
  oO 15 (.mov (.s 0)),
  oO 16 (.index (.s 15) (.c (.one (.d (.int .i64 0)))))] none) (.block 0 (.seq (.reg (some [8, 2, 1, 0, 16]) false [
  oO 18 (.bin .other .eql (.s 16) (.c (.one (.d (.int .u8 43))))),
  oO 17 (.mov (.s 18))] none) (.cond (.s 17) (.reg (some [8, 2, 1, 0]) false [
  oO 19 (.mov (.s 0)),
  oO 20 (.sliceS (.s 19) (some (.c (.one (.d (.int .i64 1))))) none),
  oO 0 (.mov (.s 20))] none) (.seq (.reg (some [2, 1, 0, 8, 16]) false [
  oO 22 (.bin .other .eql (.s 16) (.c (.one (.d (.int .u8 45))))),
  oO 21 (.mov (.s 22))] none) (.cond (.s 21) (.seq (.reg (some [2, 1, 0]) false [
  oO 23 (.mov (.s 0)),
  oO 24 (.sliceS (.s 23) (some (.c (.one (.d (.int .i64 1))))) none),
  oO 0 (.mov (.s 24))] none) (.reg (some [2, 1, 0]) false [
  oO 8 (.mov (.c (.one (.d (.bool true)))))] none)) .skip)))))) (.seq (.reg (some [8, 2, 1, 0]) false [
  oO 9 (.mov (.c (.one (.d (.int .u64 0)))))] none) (.seq (.reg (some [8, 2, 1, 0]) false [
  oO 26 (.mov (.s 0)),
  oO 27 (.mov (.s 1)),
  oO 28 (.mov (.s 2)),
  oO 29 (.call (.f 45) [(false, (.s 26)), (false, (.s 27)), (false, (.s 28))]),
  oO 25 (.mov (.s 29)),
  oO 30 (.extract 0 (.s 25)),
  oO 31 (.extract 1 (.s 25)),
  oO 9 (.mov (.s 30)),
  oO 7 (.mov (.s 31))] none) (.seq (.seq (.reg (some [7, 8, 9, 2]) false [
  oO 32 (.mov (.s 7)),
  oO 33 (.bin .iface .neq (.s 32) (.c (.one .nili))),
  oO 34 (.mov (.s 33)),
  oT 35 34 (.mov (.s 7)),
  oT 36 34 (.mkif (.c (.one (.d (.int .i64 1))))),
  oT 37 34 (.bad),
  oO 38 (.pick (.s 34) (.s 37) (.c (.one (.d (.bool false)))))] none) (.cond (.s 38) (.seq (.reg (some [7]) false [
  oO 39 (.mov (.s 7)),
  oO 6 (.mov (.c (.one (.d (.int .i64 0))))),
  oO 7 (.mov (.s 39))] none) .ret) .skip)) (.seq (.seq (.reg (some [8, 9, 2]) false [
  oO 40 (.mov (.s 2)),
  oO 41 (.bin .other .eql (.s 40) (.c (.one (.d (.int .i64 0)))))] none) (.cond (.s 41) (.reg (some [8, 9]) false [
  oO 2 (.mov (.c (.one (.d (.int .i64 64)))))] none) .skip)) (.seq (.reg (some [8, 9, 2]) false [
  oO 42 (.mov (.s 2)),
  oO 43 (.bin .other .sub (.s 42) (.c (.one (.d (.int .i64 1))))),
  oO 44 (.conv (.int .u64) (.s 43)),
  oO 45 (.bin .other .shl (.c (.one (.d (.int .u64 1)))) (.s 44)),
  oO 10 (.mov (.s 45))] none) (.seq (.seq (.reg (some [10, 8, 9]) false [
  oO 46 (.mov (.s 8)),
  oO 47 (.un .not (.s 46)),
  oO 48 (.mov (.s 47)),
  oT 49 48 (.mov (.s 9)),
  oT 50 48 (.mov (.s 10)),
  oT 51 48 (.bin .other .geq (.s 49) (.s 50)),
  oO 52 (.pick (.s 48) (.s 51) (.c (.one (.d (.bool false)))))] none) (.cond (.s 52) (.seq (.reg (some [10]) false [
  oO 53 (.mov (.s 10)),
  oO 54 (.bin .other .sub (.s 53) (.c (.one (.d (.int .u64 1))))),
  oO 55 (.conv (.int .i64) (.s 54)),
  oO 56 (.mkif (.c (.one (.d (.int .i64 1))))),
  oO 6 (.mov (.s 55)),
  oO 7 (.mov (.s 56))] none) .ret) .skip)) (.seq (.seq (.reg (some [10, 8, 9]) false [
  oO 57 (.mov (.s 8)),
  oO 58 (.mov (.s 57)),
  oT 59 58 (.mov (.s 9)),
  oT 60 58 (.mov (.s 10)),
  oT 61 58 (.bin .other .gtr (.s 59) (.s 60)),
  oO 62 (.pick (.s 58) (.s 61) (.c (.one (.d (.bool false)))))] none) (.cond (.s 62) (.seq (.reg (some [10]) false [
  oO 63 (.mov (.s 10)),
  oO 64 (.conv (.int .i64) (.s 63)),
  oO 65 (.un .neg (.s 64)),
  oO 66 (.mkif (.c (.one (.d (.int .i64 1))))),
  oO 6 (.mov (.s 65)),
  oO 7 (.mov (.s 66))] none) .ret) .skip)) (.seq (.reg (some [8, 9]) false [
  oO 67 (.mov (.s 9)),
  oO 68 (.conv (.int .i64) (.s 67)),
  oO 11 (.mov (.s 68))] none) (.seq (.seq (.reg (some [11, 8]) false [
  oO 69 (.mov (.s 8))] none) (.cond (.s 69) (.reg (some [11]) false [
  oO 70 (.mov (.s 11)),
  oO 71 (.un .neg (.s 70)),
  oO 11 (.mov (.s 71))] none) .skip)) (.seq (.reg (some [11]) false [
  oO 72 (.mov (.s 11)),
  oO 6 (.mov (.s 72)),
  oO 7 (.mov (.c (.one .nili)))] none) .ret)))))))))))))), true⟩
def an39 : Ann := ⟨lkN [], resT, imB, noB⟩
def hint41 : Hint := ⟨40, 4, [], [], [(0, (some [0]), false), (1, (some [0]), false), (2, (some []), false), (3, (some [0]), false), (4, (some [0, 3]), true), (6, (some [0, 3]), false), (7, (some []), false), (5, (some [0, 3]), false), (8, (some []), false)]⟩
def k41_c0 : KCode := (.seq (.reg (some []) false [
  oO 2 (.mov (.c (.one (.d (.bool true)))))] none) .ret)
def k41_b0 : KCode := (.seq (.seq (.reg none false [
  oO 22 (.mov (.s 3)),
  oO 23 (.mov (.s 0)),
  oO 24 (.len true (.s 23)),
  oO 25 (.bin .other .lss (.s 22) (.s 24))] none) (.cond (.s 25) .skip (.exit 0))) (.seq (.block 1 (.seq (.reg (some [0, 3]) false [
  oO 28 (.mov (.s 0)),
  oO 29 (.mov (.s 3)),
  oO 30 (.index (.s 28) (.s 29)),
  oO 31 (.call (.f 50) [(false, (.s 30))]),
  oO 32 (.un .not (.s 31)),
  oO 33 (.mov (.s 32)),
  oT 34 33 (.mov (.s 0)),
  oT 35 33 (.mov (.s 3)),
  oT 36 33 (.index (.s 34) (.s 35)),
  oT 37 33 (.call (.f 51) [(false, (.s 36))]),
  oT 38 33 (.un .not (.s 37)),
  oO 39 (.pick (.s 33) (.s 38) (.c (.one (.d (.bool false)))))] none) (.cond (.s 39) (.seq (.reg (some []) false [
  oO 2 (.mov (.c (.one (.d (.bool false)))))] none) .ret) .skip))) (.reg (some [0, 3]) false [
  oO 26 (.mov (.s 3)),
  oO 27 (.bin .other .add (.s 26) (.c (.one (.d (.int .i64 1))))),
  oO 3 (.mov (.s 27))] none)))
def k41 : KFunc := ⟨40, [.slot 2], (.seq (.reg (some [0]) false [
  oO 2 (.mov (.c (.one (.d (.bool false)))))] none) (.seq (.seq (.reg (some [0]) false [
  oO 4 (.mov (.s 0)),
  oO 5 (.len true (.s 4)),
  oO 6 (.bin .other .lss (.s 5) (.c (.one (.d (.int .i64 1))))),
  oO 7 (.mov (.s 6)),
  oF 8 7 (.mov (.s 0)),
  oF 9 7 (.len true (.s 8)),
  oF 10 7 (.bin .other .gtr (.s 9) (.c (.one (.d (.int .i64 12))))),
  oO 11 (.pick (.s 7) (.c (.one (.d (.bool true)))) (.s 10)),
  oO 12 (.mov (.s 11)),
  oF 13 12 (.mov (.s 0)),
  oF 14 12 (.index (.s 13) (.c (.one (.d (.int .i64 0))))),
  oF 15 12 (.call (.f 50) [(false, (.s 14))]),
  oF 16 12 (.un .not (.s 15)),
  oO 17 (.pick (.s 12) (.c (.one (.d (.bool true)))) (.s 16)),
  oO 18 (.mov (.s 17)),
  oF 19 18 (.mov (.s 0)),
  oF 20 18 (.call (.f 31) [(false, (.s 19))]),
  oO 21 (.pick (.s 18) (.c (.one (.d (.bool true)))) (.s 20))] none) (.cond (.s 21) (.seq (.reg (some []) false [
  oO 2 (.mov (.c (.one (.d (.bool false)))))] none) .ret) .skip)) (.seq (.seq (.reg (some [0]) false [
  oO 3 (.mov (.c (.one (.d (.int .i64 1)))))] none) (.block 0 (.loop 0 (some [0, 3]) true k41_b0))) k41_c0))), true⟩
def an41 : Ann := ⟨lkN [], resT, imB, noB⟩
def h41_0 (Cl : Oracle) (n : Nat) (bx : List (List C)) (m0 : Nat) (S : Go.Abs.St) : Option (V × List (List C)) := iterK 0 (evCA an41 Cl n k41_b0) (some [0, 3]) true m0 S (blockK 0 (seqK (evCA an41 Cl n k41_c0) (retK [.slot 2] true bx)))
def hint42 : Hint := ⟨77, 11, [], [], [(0, (some [0]), false), (1, (some [0]), false), (2, (some [0, 4]), false), (3, (some [0]), false), (4, (some [5, 0]), false), (5, (some [5, 0]), false), (6, (some [5, 0]), false), (7, (some []), false), (8, (some [5, 0]), false), (9, (some [6, 5, 0]), false), (10, (some [47, 5, 48, 49, 6]), true), (11, (some [47, 5, 48, 49, 6]), false), (12, (some [47, 5, 48, 49, 6, 8]), false), (13, (some [47, 5, 48, 49, 8, 6]), false), (14, (some []), false), (15, (some [47, 5, 48, 49, 8, 6]), false), (16, (some [6, 47, 5, 48, 49]), false), (17, (some [6, 5]), false), (18, (some [6]), false), (19, (some [6]), false), (20, (some [0]), false), (21, (some [10, 9]), false)]⟩
def k42_c0 : KCode := (.seq (.reg (some [0]) false [
  oO 71 (.mov (.s 0)),
  oO 72 (.call (.f 39) [(false, (.s 71)), (false, (.c (.one (.d (.int .i64 10))))), (false, (.c (.one (.d (.int .i64 0)))))]),
  oO 70 (.mov (.s 72)),
  oO 73 (.extract 0 (.s 70)),
  oO 74 (.extract 1 (.s 70)),
  oO 9 (.mov (.s 73)),
  oO 10 (.mov (.s 74))] none) (.seq (.reg (some [10, 9]) false [
  oO 75 (.mov (.s 9)),
  oO 76 (.mov (.s 10)),
  oO 2 (.mov (.s 75)),
  oO 3 (.mov (.s 76))] none) .ret))
def k42_c1 : KCode := (.seq (.seq (.reg (some [6, 5]) false [
  oO 64 (.mov (.s 5)),
  oO 65 (.index (.s 64) (.c (.one (.d (.int .i64 0))))),
  oO 66 (.bin .other .eql (.s 65) (.c (.one (.d (.int .u8 45)))))] none) (.cond (.s 66) (.reg (some [6]) false [
  oO 67 (.mov (.s 6)),
  oO 68 (.un .neg (.s 67)),
  oO 6 (.mov (.s 68))] none) .skip)) (.seq (.reg (some [6]) false [
  oO 69 (.mov (.s 6)),
  oO 2 (.mov (.s 69)),
  oO 3 (.mov (.c (.one .nili)))] none) .ret))
def k42_b0 : KCode := (.seq (.reg none false [
  oO 50 (.bin .other .lss (.s 49) (.s 48))] none) (.seq (.cond (.s 50) .skip (.exit 0)) (.seq (.block 1 (.seq (.reg (some [47, 5, 48, 49, 6]) false [
  oO 51 (.indexA 1 (.s 47) (.s 49)),
  oO 52 (.load 1 false (.s 51)),
  oO 8 (.mov (.s 52))] none) (.seq (.reg (some [47, 5, 48, 49, 6, 8]) false [
  oO 53 (.mov (.s 8)),
  oO 54 (.bin .other .sub (.s 53) (.c (.one (.d (.int .u8 48))))),
  oO 8 (.mov (.s 54))] none) (.seq (.seq (.reg (some [47, 5, 48, 49, 8, 6]) false [
  oO 55 (.mov (.s 8)),
  oO 56 (.bin .other .gtr (.s 55) (.c (.one (.d (.int .u8 9)))))] none) (.cond (.s 56) (.seq (.reg (some []) false [
  oO 57 (.mkif (.c (.one (.d (.int .i64 2))))),
  oO 2 (.mov (.c (.one (.d (.int .i64 0))))),
  oO 3 (.mov (.s 57))] none) .ret) .skip)) (.reg (some [47, 5, 48, 49, 8, 6]) false [
  oO 58 (.mov (.s 6)),
  oO 59 (.bin .other .mul (.s 58) (.c (.one (.d (.int .i64 10))))),
  oO 60 (.mov (.s 8)),
  oO 61 (.conv (.int .i64) (.s 60)),
  oO 62 (.bin .other .add (.s 59) (.s 61)),
  oO 6 (.mov (.s 62))] none))))) (.reg (some [6, 47, 5, 48, 49]) false [
  oO 63 (.bin .other .add (.s 49) (.c (.one (.d (.int .i64 1))))),
  oO 49 (.mov (.s 63))] none))))
def k42 : KFunc := ⟨77, [.slot 2, .slot 3], (.seq (.reg (some [0]) false [
  oO 2 (.mov (.c (.one (.d (.int .i64 0))))),
  oO 3 (.mov (.c (.one .nili)))] none) (.seq (.reg (some [0]) false [
  oO 11 (.mov (.s 0)),
  oO 12 (.len true (.s 11)),
  oO 4 (.mov (.s 12))] none) (.seq (.seq (.reg (some [0, 4]) false [
  oO 13 (.mov (.c (.one (.d (.bool false))))),
  oT 14 13 (.mov (.s 4)),
  oT 15 13 (.bin .other .lss (.c (.one (.d (.int .i64 0)))) (.s 14)),
  oT 16 13 (.mov (.s 15)),
  oT 17 16 (.mov (.s 4)),
  oT 18 16 (.bin .other .lss (.s 17) (.c (.one (.d (.int .i64 10))))),
  oT 19 13 (.pick (.s 16) (.s 18) (.c (.one (.d (.bool false))))),
  oO 20 (.pick (.s 13) (.s 19) (.c (.one (.d (.bool false))))),
  oO 21 (.mov (.s 20)),
  oF 22 21 (.mov (.c (.one (.d (.bool true))))),
  oT 23 22 (.mov (.s 4)),
  oT 24 22 (.bin .other .lss (.c (.one (.d (.int .i64 0)))) (.s 23)),
  oT 25 22 (.mov (.s 24)),
  oT 26 25 (.mov (.s 4)),
  oT 27 25 (.bin .other .lss (.s 26) (.c (.one (.d (.int .i64 19))))),
  oT 28 22 (.pick (.s 25) (.s 27) (.c (.one (.d (.bool false))))),
  oF 29 21 (.pick (.s 22) (.s 28) (.c (.one (.d (.bool false))))),
  oO 30 (.pick (.s 21) (.c (.one (.d (.bool true)))) (.s 29))] none) (.cond (.s 30) (.seq (.reg (some [0]) false [
  oO 31 (.mov (.s 0)),
  oO 5 (.mov (.s 31))] none) (.seq (.seq (.reg (some [5, 0]) false [
  oO 32 (.mov (.s 0)),
  oO 33 (.index (.s 32) (.c (.one (.d (.int .i64 0))))),
  oO 34 (.bin .other .eql (.s 33) (.c (.one (.d (.int .u8 45))))),
  oO 35 (.mov (.s 34)),
  oF 36 35 (.mov (.s 0)),
  oF 37 35 (.index (.s 36) (.c (.one (.d (.int .i64 0))))),
  oF 38 35 (.bin .other .eql (.s 37) (.c (.one (.d (.int .u8 43))))),
  oO 39 (.pick (.s 35) (.c (.one (.d (.bool true)))) (.s 38))] none) (.cond (.s 39) (.seq (.reg (some [5, 0]) false [
  oO 40 (.mov (.s 0)),
  oO 41 (.sliceS (.s 40) (some (.c (.one (.d (.int .i64 1))))) none),
  oO 0 (.mov (.s 41))] none) (.seq (.reg (some [5, 0]) false [
  oO 42 (.mov (.s 0)),
  oO 43 (.len true (.s 42)),
  oO 44 (.bin .other .lss (.s 43) (.c (.one (.d (.int .i64 1)))))] none) (.cond (.s 44) (.seq (.reg (some []) false [
  oO 45 (.mkif (.c (.one (.d (.int .i64 2))))),
  oO 2 (.mov (.c (.one (.d (.int .i64 0))))),
  oO 3 (.mov (.s 45))] none) .ret) .skip))) .skip)) (.seq (.reg (some [5, 0]) false [
  oO 6 (.mov (.c (.one (.d (.int .i64 0)))))] none) (.seq (.seq (.reg (some [6, 5, 0]) false [
  oO 46 (.mov (.s 0)),
  oO 47 (.conv .strBytes (.s 46)),
  oO 48 (.len false (.s 47)),
  oO 49 (.mov (.c (.one (.d (.int .i64 0)))))] none) (.block 0 (.loop 0 (some [47, 5, 48, 49, 6]) true k42_b0))) k42_c1)))) .skip)) k42_c0))), true⟩
def an42 : Ann := ⟨lkN [(52, [.int .u8])], resT, imB, noB⟩
def h42_0 (Cl : Oracle) (n : Nat) (bx : List (List C)) (m0 : Nat) (S : Go.Abs.St) : Option (V × List (List C)) := iterK 0 (evCA an42 Cl n k42_b0) (some [47, 5, 48, 49, 6]) true m0 S (blockK 0 (seqK (evCA an42 Cl n k42_c1) (seqK (evCA an42 Cl n k42_c0) (retK [.slot 2, .slot 3] true bx))))
def hint43 : Hint := ⟨178, 5, [], [], [(0, (some [0, 1]), false), (2, (some [0, 1]), false), (3, (some [0, 1]), false), (4, (some [0, 1]), false), (5, (some [0, 1]), false), (6, (some [0, 1]), false), (7, (some [0, 1]), false), (8, (some [0, 1]), false), (9, (some [0, 1]), false), (10, (some [0, 1]), false), (11, (some [0, 1]), false), (12, (some [0, 1]), false), (13, (some [0, 1]), false), (14, (some [0, 1]), false), (15, (some [0, 1]), false), (16, (some [0, 1]), false), (17, (some [0, 1]), false), (18, (some [0, 1]), false), (19, (some [0]), false), (20, (some [0, 1]), false), (21, (some [0, 1]), false), (22, (some [0, 1]), false), (23, (some [0, 1]), false), (24, (some [0, 1]), false), (25, (some [0, 1]), false), (26, (some [0, 1]), false), (27, (some [0, 1]), false), (28, (some [0, 1]), false), (29, (some [0, 1]), false), (30, (some [0, 1]), false), (31, (some [0, 1]), false), (32, (some [0, 1]), false), (33, (some [0, 1]), false), (34, (some [0, 1]), false), (35, (some [0, 1]), false), (1, (some []), false), (36, (some [0]), false), (37, (some []), false)]⟩
def k43 : KFunc := ⟨178, [.slot 4], (.seq (.reg (some [0, 1]) false [
  oO 4 (.mov (.c (.one (.d (.bool false)))))] none) (.seq (.block 0 (.seq (.reg (some [0, 1]) false [
  oO 6 (.mov (.s 0)),
  oO 7 (.nilck (.s 6)),
  oO 8 (.fieldA 0 (.s 7)),
  oO 9 (.call (.f 9) [(false, (.t 8)), (false, (.c (.one (.d (.str [108, 101, 116])))))]),
  oO 5 (.mov (.s 9))] none) (.cond (.s 5) (.seq (.reg (some [0, 1]) false [
  oO 10 (.mov (.s 1)),
  oO 11 (.nilck (.s 10)),
  oO 12 (.fieldA 0 (.s 11)),
  oN (.store false 1 (.s 12) (.c (.one (.d (.int .i64 1)))))] none) (.seq (.reg (some [0, 1]) false [
  oO 13 (.mov (.s 1)),
  oO 14 (.mov (.s 0)),
  oO 15 (.nilck (.s 14)),
  oO 16 (.fieldA 0 (.s 15)),
  oO 17 (.call (.f 25) [(false, (.t 16))]),
  oO 18 (.nilck (.s 13)),
  oO 19 (.fieldA 1 (.s 18)),
  oN (.store false 1 (.s 19) (.s 17))] none) (.seq (.reg (some [0, 1]) false [
  oO 20 (.mov (.s 0)),
  oO 21 (.nilck (.s 20)),
  oO 22 (.fieldA 0 (.s 21)),
  oO 23 (.call (.f 26) [(false, (.t 22)), (false, (.c (.one (.d (.str [61])))))])] none) (.reg (some [0, 1]) false [
  oO 24 (.mov (.s 1)),
  oO 25 (.mov (.s 0)),
  oO 26 (.call (.f 52) [(false, (.s 25))]),
  oO 27 (.nilck (.s 24)),
  oO 28 (.fieldA 5 (.s 27)),
  oN (.store false 1 (.s 28) (.s 26))] none)))) (.seq (.reg (some [0, 1]) false [
  oO 30 (.mov (.s 0)),
  oO 31 (.nilck (.s 30)),
  oO 32 (.fieldA 0 (.s 31)),
  oO 33 (.call (.f 9) [(false, (.t 32)), (false, (.c (.one (.d (.str [112, 114, 105, 110, 116])))))]),
  oO 29 (.mov (.s 33))] none) (.cond (.s 29) (.seq (.reg (some [0, 1]) false [
  oO 34 (.mov (.s 1)),
  oO 35 (.nilck (.s 34)),
  oO 36 (.fieldA 0 (.s 35)),
  oN (.store false 1 (.s 36) (.c (.one (.d (.int .i64 2)))))] none) (.reg (some [0, 1]) false [
  oO 37 (.mov (.s 1)),
  oO 38 (.mov (.s 0)),
  oO 39 (.call (.f 52) [(false, (.s 38))]),
  oO 40 (.nilck (.s 37)),
  oO 41 (.fieldA 5 (.s 40)),
  oN (.store false 1 (.s 41) (.s 39))] none)) (.seq (.reg (some [0, 1]) false [
  oO 43 (.mov (.s 0)),
  oO 44 (.nilck (.s 43)),
  oO 45 (.fieldA 0 (.s 44)),
  oO 46 (.call (.f 9) [(false, (.t 45)), (false, (.c (.one (.d (.str [115, 97, 121])))))]),
  oO 42 (.mov (.s 46))] none) (.cond (.s 42) (.seq (.reg (some [0, 1]) false [
  oO 47 (.mov (.s 1)),
  oO 48 (.nilck (.s 47)),
  oO 49 (.fieldA 0 (.s 48)),
  oN (.store false 1 (.s 49) (.c (.one (.d (.int .i64 4)))))] none) (.seq (.reg (some [0, 1]) false [
  oO 50 (.mov (.s 1)),
  oO 51 (.mov (.s 0)),
  oO 52 (.nilck (.s 51)),
  oO 53 (.fieldA 0 (.s 52)),
  oO 54 (.call (.f 25) [(false, (.t 53))]),
  oO 55 (.nilck (.s 50)),
  oO 56 (.fieldA 1 (.s 55)),
  oN (.store false 1 (.s 56) (.s 54))] none) (.seq (.reg (some [0, 1]) false [
  oO 57 (.mov (.s 0)),
  oO 58 (.nilck (.s 57)),
  oO 59 (.fieldA 0 (.s 58)),
  oO 60 (.call (.f 26) [(false, (.t 59)), (false, (.c (.one (.d (.str [116, 111])))))])] none) (.seq (.reg (some [0, 1]) false [
  oO 61 (.mov (.s 1)),
  oO 62 (.mov (.s 0)),
  oO 63 (.nilck (.s 62)),
  oO 64 (.fieldA 0 (.s 63)),
  oO 65 (.call (.f 25) [(false, (.t 64))]),
  oO 66 (.nilck (.s 61)),
  oO 67 (.fieldA 2 (.s 66)),
  oN (.store false 1 (.s 67) (.s 65))] none) (.seq (.reg (some [0, 1]) false [
  oO 68 (.mov (.s 1)),
  oO 69 (.mov (.s 0)),
  oO 70 (.nilck (.s 69)),
  oO 71 (.fieldA 0 (.s 70)),
  oO 72 (.call (.f 25) [(false, (.t 71))]),
  oO 73 (.nilck (.s 68)),
  oO 74 (.fieldA 3 (.s 73)),
  oN (.store false 1 (.s 74) (.s 72))] none) (.seq (.reg (some [0, 1]) false [
  oO 75 (.mov (.s 0)),
  oO 76 (.nilck (.s 75)),
  oO 77 (.fieldA 0 (.s 76)),
  oO 78 (.call (.f 26) [(false, (.t 77)), (false, (.c (.one (.d (.str [40])))))])] none) (.seq (.seq (.reg (some [0, 1]) false [
  oO 79 (.mov (.s 0)),
  oO 80 (.nilck (.s 79)),
  oO 81 (.fieldA 0 (.s 80)),
  oO 82 (.call (.f 24) [(false, (.t 81)), (false, (.c (.one (.d (.str [41])))))]),
  oO 83 (.un .not (.s 82))] none) (.cond (.s 83) (.reg (some [0, 1]) false [
  oO 84 (.mov (.s 1)),
  oO 85 (.mov (.s 0)),
  oO 86 (.call (.f 52) [(false, (.s 85))]),
  oO 87 (.nilck (.s 84)),
  oO 88 (.fieldA 5 (.s 87)),
  oN (.store false 1 (.s 88) (.s 86))] none) .skip)) (.reg (some [0]) false [
  oO 89 (.mov (.s 0)),
  oO 90 (.nilck (.s 89)),
  oO 91 (.fieldA 0 (.s 90)),
  oO 92 (.call (.f 26) [(false, (.t 91)), (false, (.c (.one (.d (.str [41])))))])] none)))))))) (.seq (.reg (some [0, 1]) false [
  oO 94 (.mov (.s 0)),
  oO 95 (.nilck (.s 94)),
  oO 96 (.fieldA 0 (.s 95)),
  oO 97 (.call (.f 9) [(false, (.t 96)), (false, (.c (.one (.d (.str [115, 112, 97, 119, 110])))))]),
  oO 93 (.mov (.s 97))] none) (.cond (.s 93) (.seq (.reg (some [0, 1]) false [
  oO 98 (.mov (.s 1)),
  oO 99 (.nilck (.s 98)),
  oO 100 (.fieldA 0 (.s 99)),
  oN (.store false 1 (.s 100) (.c (.one (.d (.int .i64 7)))))] none) (.seq (.reg (some [0, 1]) false [
  oO 101 (.mov (.s 1)),
  oO 102 (.mov (.s 0)),
  oO 103 (.nilck (.s 102)),
  oO 104 (.fieldA 0 (.s 103)),
  oO 105 (.call (.f 25) [(false, (.t 104))]),
  oO 106 (.nilck (.s 101)),
  oO 107 (.fieldA 4 (.s 106)),
  oN (.store false 1 (.s 107) (.s 105))] none) (.reg (some [0, 1]) false [
  oO 108 (.mov (.s 1)),
  oO 109 (.mov (.s 0)),
  oO 110 (.call (.f 53) [(false, (.s 109))]),
  oO 111 (.nilck (.s 108)),
  oO 112 (.fieldA 6 (.s 111)),
  oN (.store false 1 (.s 112) (.t 110))] none))) (.seq (.reg (some [0, 1]) false [
  oO 114 (.mov (.s 0)),
  oO 115 (.nilck (.s 114)),
  oO 116 (.fieldA 0 (.s 115)),
  oO 117 (.call (.f 9) [(false, (.t 116)), (false, (.c (.one (.d (.str [111, 112, 101, 110])))))]),
  oO 113 (.mov (.s 117))] none) (.cond (.s 113) (.seq (.reg (some [0, 1]) false [
  oO 118 (.mov (.s 1)),
  oO 119 (.nilck (.s 118)),
  oO 120 (.fieldA 0 (.s 119)),
  oN (.store false 1 (.s 120) (.c (.one (.d (.int .i64 8)))))] none) (.seq (.reg (some [0, 1]) false [
  oO 121 (.mov (.s 1)),
  oO 122 (.mov (.s 0)),
  oO 123 (.nilck (.s 122)),
  oO 124 (.fieldA 0 (.s 123)),
  oO 125 (.call (.f 25) [(false, (.t 124))]),
  oO 126 (.nilck (.s 121)),
  oO 127 (.fieldA 1 (.s 126)),
  oN (.store false 1 (.s 127) (.s 125))] none) (.seq (.reg (some [0, 1]) false [
  oO 128 (.mov (.s 0)),
  oO 129 (.nilck (.s 128)),
  oO 130 (.fieldA 0 (.s 129)),
  oO 131 (.call (.f 26) [(false, (.t 130)), (false, (.c (.one (.d (.str [61])))))])] none) (.seq (.reg (some [0, 1]) false [
  oO 132 (.mov (.s 1)),
  oO 133 (.mov (.s 0)),
  oO 134 (.nilck (.s 133)),
  oO 135 (.fieldA 0 (.s 134)),
  oO 136 (.call (.f 25) [(false, (.t 135))]),
  oO 137 (.nilck (.s 132)),
  oO 138 (.fieldA 3 (.s 137)),
  oN (.store false 1 (.s 138) (.s 136))] none) (.seq (.reg (some [0, 1]) false [
  oO 139 (.mov (.s 0)),
  oO 140 (.nilck (.s 139)),
  oO 141 (.fieldA 0 (.s 140)),
  oO 142 (.call (.f 26) [(false, (.t 141)), (false, (.c (.one (.d (.str [97, 115])))))])] none) (.seq (.reg (some [0, 1]) false [
  oO 143 (.mov (.s 1)),
  oO 144 (.mov (.s 0)),
  oO 145 (.nilck (.s 144)),
  oO 146 (.fieldA 0 (.s 145)),
  oO 147 (.call (.f 25) [(false, (.t 146))]),
  oO 148 (.nilck (.s 143)),
  oO 149 (.fieldA 2 (.s 148)),
  oN (.store false 1 (.s 149) (.s 147))] none) (.seq (.reg (some [0, 1]) false [
  oO 150 (.mov (.s 0)),
  oO 151 (.nilck (.s 150)),
  oO 152 (.fieldA 0 (.s 151)),
  oO 153 (.call (.f 26) [(false, (.t 152)), (false, (.c (.one (.d (.str [119, 105, 116, 104])))))])] none) (.reg (some [0, 1]) false [
  oO 154 (.mov (.s 1)),
  oO 155 (.mov (.s 0)),
  oO 156 (.call (.f 54) [(false, (.s 155))]),
  oO 157 (.nilck (.s 154)),
  oO 158 (.fieldA 7 (.s 157)),
  oN (.store false 1 (.s 158) (.t 156))] none)))))))) (.seq (.reg (some [0, 1]) false [
  oO 160 (.mov (.s 0)),
  oO 161 (.nilck (.s 160)),
  oO 162 (.fieldA 0 (.s 161)),
  oO 163 (.call (.f 9) [(false, (.t 162)), (false, (.c (.one (.d (.str [100, 114, 111, 112])))))]),
  oO 159 (.mov (.s 163))] none) (.cond (.s 159) (.seq (.reg (some [0, 1]) false [
  oO 164 (.mov (.s 1)),
  oO 165 (.nilck (.s 164)),
  oO 166 (.fieldA 0 (.s 165)),
  oN (.store false 1 (.s 166) (.c (.one (.d (.int .i64 9)))))] none) (.reg (some [0, 1]) false [
  oO 167 (.mov (.s 1)),
  oO 168 (.mov (.s 0)),
  oO 169 (.nilck (.s 168)),
  oO 170 (.fieldA 0 (.s 169)),
  oO 171 (.call (.f 25) [(false, (.t 170))]),
  oO 172 (.nilck (.s 167)),
  oO 173 (.fieldA 1 (.s 172)),
  oN (.store false 1 (.s 173) (.s 171))] none)) (.seq (.reg (some []) false [
  oO 4 (.mov (.c (.one (.d (.bool false)))))] none) .ret)))))))))))))) (.seq (.reg (some [0]) false [
  oO 174 (.mov (.s 0)),
  oO 175 (.nilck (.s 174)),
  oO 176 (.fieldA 0 (.s 175)),
  oO 177 (.call (.f 26) [(false, (.t 176)), (false, (.c (.one (.d (.str [59])))))])] none) (.seq (.reg (some []) false [
  oO 4 (.mov (.c (.one (.d (.bool true)))))] none) .ret)))), true⟩
def an43 : Ann := ⟨lkN [(12, [.int .i64]), (19, [.str]), (28, [.int .i64]), (36, [.int .i64]), (41, [.int .i64]), (49, [.int .i64]), (56, [.str]), (67, [.str]), (74, [.str]), (88, [.int .i64]), (100, [.int .i64]), (107, [.str]), (112, [.im 1]), (120, [.int .i64]), (127, [.str]), (138, [.str]), (149, [.str]), (158, [.im 3]), (166, [.int .i64]), (173, [.str])], resT, imB, noB⟩
def hint44 : Hint := ⟨153, 4, [], [], [(1, (some [1, 0]), false), (2, (some [1]), false), (3, (some [1, 0]), false), (4, (some [1]), false), (5, (some [0, 1]), false), (6, (some [0, 1]), false), (7, (some [0, 1]), false), (8, (some [0, 1]), false), (9, (some [0, 1]), false), (10, (some [0, 1]), false), (11, (some [0, 1]), false), (12, (some [0, 1]), false), (13, (some [0, 1]), false), (14, (some [0, 1]), false), (15, (some [0, 1]), false), (16, (some [0, 1]), false), (17, (some [0, 1]), false), (18, (some [0, 1]), false), (19, (some [0, 1]), false), (20, (some [0, 1]), false), (21, (some [0, 1]), false), (22, (some [0, 1]), true), (23, (some [0, 1]), false), (24, (some [0]), false), (0, (some [0]), false)]⟩
def k44_c0 : KCode := (.reg (some [0]) false [
  oO 149 (.mov (.s 0)),
  oO 150 (.nilck (.s 149)),
  oO 151 (.fieldA 0 (.s 150)),
  oO 152 (.call (.f 26) [(false, (.t 151)), (false, (.c (.one (.d (.str [125])))))])] none)
def k44_b0 : KCode := (.seq (.seq (.reg none false [
  oO 126 (.mov (.s 0)),
  oO 127 (.nilck (.s 126)),
  oO 128 (.fieldA 0 (.s 127)),
  oO 129 (.call (.f 14) [(false, (.t 128))]),
  oO 130 (.un .not (.s 129)),
  oO 131 (.mov (.s 130)),
  oT 132 131 (.mov (.s 0)),
  oT 133 131 (.nilck (.s 132)),
  oT 134 131 (.fieldA 0 (.s 133)),
  oT 135 131 (.call (.f 24) [(false, (.t 134)), (false, (.c (.one (.d (.str [125])))))]),
  oT 136 131 (.un .not (.s 135)),
  oO 137 (.pick (.s 131) (.s 136) (.c (.one (.d (.bool false)))))] none) (.cond (.s 137) .skip (.exit 1))) (.block 2 (.reg (some [0, 1]) false [
  oO 138 (.mov (.s 1)),
  oO 139 (.mov (.s 1)),
  oO 140 (.nilck (.s 139)),
  oO 141 (.fieldA 8 (.s 140)),
  oO 142 (.load 1 false (.s 141)),
  oO 143 (.mov (.s 0)),
  oO 144 (.call (.f 55) [(false, (.s 143))]),
  oO 145 (.bslice 3 [[(.str []), (.str []), (.int .i64 0)]] [(0, (.s 144))]),
  oO 146 (.app 3 40 (.t 142) (.t 145)),
  oO 147 (.nilck (.s 138)),
  oO 148 (.fieldA 8 (.s 147)),
  oN (.store false 1 (.s 148) (.t 146))] (some [(0, 1), (0, 2), (0, 3), (0, 4), (0, 5), (1, 5), (2, 5), (3, 5), (4, 5), (0, 6), (1, 6), (2, 6), (3, 6), (4, 6), (0, 7), (1, 7), (2, 7), (3, 7), (4, 7), (0, 8)]))))
def k44 : KFunc := ⟨153, [], (.block 0 (.seq (.reg (some [1, 0]) false [
  oO 9 (.mov (.s 0)),
  oO 10 (.nilck (.s 9)),
  oO 11 (.fieldA 0 (.s 10)),
  oO 12 (.call (.f 9) [(false, (.t 11)), (false, (.c (.one (.d (.str [115, 116, 111, 112])))))]),
  oO 8 (.mov (.s 12))] none) (.cond (.s 8) (.reg (some [1]) false [
  oO 13 (.mov (.s 1)),
  oO 14 (.nilck (.s 13)),
  oO 15 (.fieldA 0 (.s 14)),
  oN (.store false 1 (.s 15) (.c (.one (.d (.int .i64 0)))))] none) (.seq (.reg (some [1, 0]) false [
  oO 17 (.mov (.s 0)),
  oO 18 (.nilck (.s 17)),
  oO 19 (.fieldA 0 (.s 18)),
  oO 20 (.call (.f 9) [(false, (.t 19)), (false, (.c (.one (.d (.str [102, 97, 105, 108])))))]),
  oO 16 (.mov (.s 20))] none) (.cond (.s 16) (.reg (some [1]) false [
  oO 21 (.mov (.s 1)),
  oO 22 (.nilck (.s 21)),
  oO 23 (.fieldA 0 (.s 22)),
  oN (.store false 1 (.s 23) (.c (.one (.d (.int .i64 10)))))] none) (.seq (.reg (some [0, 1]) false [
  oO 25 (.mov (.s 0)),
  oO 26 (.nilck (.s 25)),
  oO 27 (.fieldA 0 (.s 26)),
  oO 28 (.call (.f 9) [(false, (.t 27)), (false, (.c (.one (.d (.str [99, 97, 108, 108])))))]),
  oO 24 (.mov (.s 28))] none) (.cond (.s 24) (.seq (.reg (some [0, 1]) false [
  oO 29 (.mov (.s 1)),
  oO 30 (.nilck (.s 29)),
  oO 31 (.fieldA 0 (.s 30)),
  oN (.store false 1 (.s 31) (.c (.one (.d (.int .i64 6)))))] none) (.seq (.reg (some [0, 1]) false [
  oO 32 (.mov (.s 1)),
  oO 33 (.mov (.s 0)),
  oO 34 (.nilck (.s 33)),
  oO 35 (.fieldA 0 (.s 34)),
  oO 36 (.call (.f 25) [(false, (.t 35))]),
  oO 37 (.nilck (.s 32)),
  oO 38 (.fieldA 4 (.s 37)),
  oN (.store false 1 (.s 38) (.s 36))] none) (.reg (some [0, 1]) false [
  oO 39 (.mov (.s 1)),
  oO 40 (.mov (.s 0)),
  oO 41 (.call (.f 53) [(false, (.s 40))]),
  oO 42 (.nilck (.s 39)),
  oO 43 (.fieldA 6 (.s 42)),
  oN (.store false 1 (.s 43) (.t 41))] none))) (.seq (.reg (some [0, 1]) false [
  oO 45 (.mov (.s 0)),
  oO 46 (.nilck (.s 45)),
  oO 47 (.fieldA 0 (.s 46)),
  oO 48 (.call (.f 9) [(false, (.t 47)), (false, (.c (.one (.d (.str [105, 102])))))]),
  oO 44 (.mov (.s 48))] none) (.cond (.s 44) (.seq (.reg (some [0, 1]) false [
  oO 49 (.mov (.s 1)),
  oO 50 (.nilck (.s 49)),
  oO 51 (.fieldA 0 (.s 50)),
  oN (.store false 1 (.s 51) (.c (.one (.d (.int .i64 3)))))] none) (.seq (.reg (some [0, 1]) false [
  oO 52 (.mov (.s 1)),
  oO 53 (.mov (.s 0)),
  oO 54 (.call (.f 52) [(false, (.s 53))]),
  oO 55 (.nilck (.s 52)),
  oO 56 (.fieldA 5 (.s 55)),
  oN (.store false 1 (.s 56) (.s 54))] none) (.seq (.reg (some [0, 1]) false [
  oO 57 (.mov (.s 1)),
  oO 58 (.mov (.s 1)),
  oO 59 (.nilck (.s 58)),
  oO 60 (.fieldA 8 (.s 59)),
  oO 61 (.load 1 false (.s 60)),
  oO 62 (.mov (.s 0)),
  oO 63 (.call (.f 30) [(false, (.s 62))]),
  oO 64 (.build [(.d (.str [])), (.d (.str [])), (.d (.int .i64 0))] [(2, 1, (.s 63))]),
  oO 65 (.bslice 3 [[(.str []), (.str []), (.int .i64 0)]] [(0, (.s 64))]),
  oO 66 (.app 3 40 (.t 61) (.t 65)),
  oO 67 (.nilck (.s 57)),
  oO 68 (.fieldA 8 (.s 67)),
  oN (.store false 1 (.s 68) (.t 66))] (some [(0, 1), (0, 2), (0, 3), (0, 4), (0, 5), (1, 5), (2, 5), (3, 5), (4, 5), (0, 6), (1, 6), (2, 6), (3, 6), (4, 6), (0, 7), (1, 7), (2, 7), (3, 7), (4, 7), (0, 8), (1, 8), (2, 8), (3, 8), (4, 8), (0, 9)])) (.seq (.reg (some [0, 1]) false [
  oO 69 (.mov (.s 0)),
  oO 70 (.nilck (.s 69)),
  oO 71 (.fieldA 0 (.s 70)),
  oO 72 (.call (.f 26) [(false, (.t 71)), (false, (.c (.one (.d (.str [101, 108, 115, 101])))))])] none) (.reg (some [0, 1]) false [
  oO 73 (.mov (.s 1)),
  oO 74 (.mov (.s 1)),
  oO 75 (.nilck (.s 74)),
  oO 76 (.fieldA 8 (.s 75)),
  oO 77 (.load 1 false (.s 76)),
  oO 78 (.mov (.s 0)),
  oO 79 (.call (.f 30) [(false, (.s 78))]),
  oO 80 (.build [(.d (.str [])), (.d (.str [])), (.d (.int .i64 0))] [(2, 1, (.s 79))]),
  oO 81 (.bslice 3 [[(.str []), (.str []), (.int .i64 0)]] [(0, (.s 80))]),
  oO 82 (.app 3 40 (.t 77) (.t 81)),
  oO 83 (.nilck (.s 73)),
  oO 84 (.fieldA 8 (.s 83)),
  oN (.store false 1 (.s 84) (.t 82))] (some [(0, 1), (0, 2), (0, 3), (0, 4), (0, 5), (1, 5), (2, 5), (3, 5), (4, 5), (0, 6), (1, 6), (2, 6), (3, 6), (4, 6), (0, 7), (1, 7), (2, 7), (3, 7), (4, 7), (0, 8), (1, 8), (2, 8), (3, 8), (4, 8), (0, 9)])))))) (.seq (.reg (some [0, 1]) false [
  oO 86 (.mov (.s 0)),
  oO 87 (.nilck (.s 86)),
  oO 88 (.fieldA 0 (.s 87)),
  oO 89 (.call (.f 9) [(false, (.t 88)), (false, (.c (.one (.d (.str [104, 101, 97, 114])))))]),
  oO 85 (.mov (.s 89))] none) (.cond (.s 85) (.seq (.reg (some [0, 1]) false [
  oO 90 (.mov (.s 1)),
  oO 91 (.nilck (.s 90)),
  oO 92 (.fieldA 0 (.s 91)),
  oN (.store false 1 (.s 92) (.c (.one (.d (.int .i64 5)))))] none) (.seq (.reg (some [0, 1]) false [
  oO 93 (.mov (.s 1)),
  oO 94 (.mov (.s 0)),
  oO 95 (.nilck (.s 94)),
  oO 96 (.fieldA 0 (.s 95)),
  oO 97 (.call (.f 25) [(false, (.t 96))]),
  oO 98 (.nilck (.s 93)),
  oO 99 (.fieldA 1 (.s 98)),
  oN (.store false 1 (.s 99) (.s 97))] none) (.seq (.reg (some [0, 1]) false [
  oO 100 (.mov (.s 0)),
  oO 101 (.nilck (.s 100)),
  oO 102 (.fieldA 0 (.s 101)),
  oO 103 (.call (.f 26) [(false, (.t 102)), (false, (.c (.one (.d (.str [102, 114, 111, 109])))))])] none) (.seq (.reg (some [0, 1]) false [
  oO 104 (.mov (.s 1)),
  oO 105 (.mov (.s 0)),
  oO 106 (.nilck (.s 105)),
  oO 107 (.fieldA 0 (.s 106)),
  oO 108 (.call (.f 25) [(false, (.t 107))]),
  oO 109 (.nilck (.s 104)),
  oO 110 (.fieldA 2 (.s 109)),
  oN (.store false 1 (.s 110) (.s 108))] none) (.seq (.reg (some [0, 1]) false [
  oO 111 (.mov (.s 0)),
  oO 112 (.nilck (.s 111)),
  oO 113 (.fieldA 0 (.s 112)),
  oO 114 (.call (.f 26) [(false, (.t 113)), (false, (.c (.one (.d (.str [123])))))])] none) (.seq (.reg (some [0, 1]) false [
  oO 115 (.mov (.s 1)),
  oO 116 (.mov (.s 1)),
  oO 117 (.nilck (.s 116)),
  oO 118 (.fieldA 8 (.s 117)),
  oO 119 (.load 1 false (.s 118)),
  oO 120 (.mov (.s 0)),
  oO 121 (.call (.f 55) [(false, (.s 120))]),
  oO 122 (.bslice 3 [[(.str []), (.str []), (.int .i64 0)]] [(0, (.s 121))]),
  oO 123 (.app 3 40 (.t 119) (.t 122)),
  oO 124 (.nilck (.s 115)),
  oO 125 (.fieldA 8 (.s 124)),
  oN (.store false 1 (.s 125) (.t 123))] (some [(0, 1), (0, 2), (0, 3), (0, 4), (0, 5), (1, 5), (2, 5), (3, 5), (4, 5), (0, 6), (1, 6), (2, 6), (3, 6), (4, 6), (0, 7), (1, 7), (2, 7), (3, 7), (4, 7), (0, 8)])) (.seq (.block 1 (.loop 0 (some [0, 1]) true k44_b0)) k44_c0))))))) (.reg (some [0]) false [
  oO 4 (.mov (.s 0)),
  oO 5 (.nilck (.s 4)),
  oO 6 (.fieldA 0 (.s 5)),
  oO 7 (.call (.f 13) [(false, (.t 6))])] none)))))))))))), true⟩
def an44 : Ann := ⟨lkN [(15, [.int .i64]), (23, [.int .i64]), (31, [.int .i64]), (38, [.str]), (43, [.im 1]), (51, [.int .i64]), (56, [.int .i64]), (61, [.im 3]), (68, [.im 3]), (77, [.im 3]), (84, [.im 3]), (92, [.int .i64]), (99, [.str]), (110, [.str]), (119, [.im 3]), (125, [.im 3]), (142, [.im 3]), (148, [.im 3])], resT, imB, noB⟩
def h44_0 (Cl : Oracle) (n : Nat) (bx : List (List C)) (m0 : Nat) (S : Go.Abs.St) : Option (V × List (List C)) := iterK 0 (evCA an44 Cl n k44_b0) (some [0, 1]) true m0 S (blockK 1 (seqK (evCA an44 Cl n k44_c0) (blockK 0 (retK [] true bx))))
def hint45 : Hint := ⟨172, 18, [], [], [(0, (some [1, 0, 2]), false), (1, (some [1, 0, 2]), false), (2, (some []), false), (3, (some [1, 0, 2]), false), (4, (some [1, 8, 0, 2]), false), (6, (some [1, 8, 9, 0, 2]), false), (7, (some [8, 9, 2, 0, 1]), false), (8, (some [8, 9, 2, 0]), false), (9, (some [8, 9, 2, 0, 1]), false), (12, (some [8, 9, 2, 0]), false), (13, (some [8, 9, 2, 0]), false), (14, (some [1, 8, 9, 2, 0]), false), (15, (some [8, 9, 2, 0]), false), (16, (some [8, 9, 2, 0]), false), (17, (some [1, 8, 9, 2, 0]), false), (18, (some [8, 9, 2, 0]), false), (19, (some [8, 9, 2, 0]), false), (20, (some [1, 8, 9, 2, 0]), false), (10, (some [8, 9, 2, 0]), false), (11, (some [1, 8, 9, 2, 0]), false), (5, (some []), false), (21, (some [1, 8, 9, 0, 2]), false), (22, (some [1, 8, 9, 0]), false), (23, (some [1, 8, 9, 0, 2]), false), (24, (some []), false), (25, (some [1, 8, 9, 0, 2]), false), (26, (some [1, 8, 9, 0, 2]), false), (28, (some [1, 8, 9, 0, 2, 85]), false), (29, (some [1, 8, 9, 0, 2]), false), (30, (some [1, 8, 9, 0, 2, 85]), false), (31, (some [1, 8, 9, 0, 2]), false), (27, (some [1, 8, 9, 0, 2]), false), (32, (some [1, 10, 8, 9, 0, 2]), false), (33, (some [11, 1, 10, 8, 9, 0]), false), (34, (some [11, 1, 10, 8, 9, 12, 0]), false), (35, (some [11, 1, 13, 10, 8, 9, 12, 0]), false), (36, (some [11, 1, 13, 10, 8, 99, 9, 100, 101, 12]), true), (37, (some [11, 1, 13, 10, 8, 99, 9, 100, 101, 12]), false), (38, (some [11, 1, 13, 10, 8, 99, 9, 100, 101, 12, 15]), false), (40, (some [11, 1, 13, 10, 8, 99, 9, 100, 101, 12, 15]), false), (41, (some [11, 1, 13, 10, 8, 99, 9, 100, 101]), false), (42, (some [11, 1, 10, 8, 99, 9, 12, 100, 101, 13, 15]), false), (43, (some [11, 1, 10, 8, 99, 9, 12, 100, 101, 13, 15]), false), (44, (some [11, 1, 10, 8, 99, 9, 12, 100, 101, 13, 15]), false), (45, (some [11, 1, 10, 8, 99, 9, 12, 100, 101, 13, 15]), false), (39, (some []), false), (46, (some [11, 1, 10, 8, 99, 9, 12, 100, 101, 16, 13]), false), (47, (some []), false), (48, (some [11, 1, 10, 8, 99, 9, 12, 100, 101, 16, 13]), false), (49, (some [11]), false), (50, (some [11, 1, 10, 8, 99, 9, 12, 100, 101, 16, 13]), false), (51, (some [11, 1, 10, 8, 99, 9, 12, 100, 101, 13, 16]), false), (52, (some [11, 1, 10, 8, 99, 9, 12, 100, 101, 17, 13]), false), (53, (some [11]), false), (54, (some [11, 1, 10, 8, 99, 9, 12, 100, 101, 17]), false), (55, (some [11, 1, 13, 10, 8, 99, 9, 12, 100, 101]), false), (56, (some [13, 9, 12]), false), (57, (some []), false), (58, (some [13]), false)]⟩
def k45_c0 : KCode := (.seq (.seq (.reg (some [13, 9, 12]) false [
  oO 164 (.mov (.s 12)),
  oO 165 (.mov (.s 164)),
  oT 166 165 (.mov (.s 9)),
  oT 167 165 (.call (.f 57) [(false, (.s 166))]),
  oT 168 165 (.un .not (.s 167)),
  oO 169 (.pick (.s 165) (.s 168) (.c (.one (.d (.bool false)))))] none) (.cond (.s 169) (.seq (.reg (some []) false [
  oO 170 (.mkif (.c (.one (.d (.int .i64 2))))),
  oO 6 (.mov (.c (.one (.d (.int .u64 0))))),
  oO 7 (.mov (.s 170))] none) .ret) .skip)) (.seq (.reg (some [13]) false [
  oO 171 (.mov (.s 13)),
  oO 6 (.mov (.s 171)),
  oO 7 (.mov (.c (.one .nili)))] none) .ret))
def k45_b0 : KCode := (.seq (.reg none false [
  oO 102 (.bin .other .lss (.s 101) (.s 100))] none) (.seq (.cond (.s 102) .skip (.exit 3)) (.seq (.block 4 (.seq (.reg (some [11, 1, 13, 10, 8, 99, 9, 100, 101, 12]) false [
  oO 103 (.indexA 1 (.s 99) (.s 101)),
  oO 104 (.load 1 false (.s 103)),
  oO 15 (.mov (.s 104))] none) (.seq (.reg (some [11, 1, 13, 10, 8, 99, 9, 100, 101, 12, 15]) false [
  oO 16 (.mov (.c (.one (.d (.int .u8 0)))))] none) (.seq (.block 5 (.seq (.reg (some [11, 1, 13, 10, 8, 99, 9, 100, 101, 12, 15]) false [
  oO 107 (.mov (.s 15)),
  oO 108 (.bin .other .eql (.s 107) (.c (.one (.d (.int .u8 95))))),
  oO 109 (.mov (.s 108)),
  oT 110 109 (.mov (.s 8)),
  oO 111 (.pick (.s 109) (.s 110) (.c (.one (.d (.bool false))))),
  oO 106 (.mov (.s 111))] none) (.cond (.s 106) (.seq (.reg (some [11, 1, 13, 10, 8, 99, 9, 100, 101]) false [
  oO 12 (.mov (.c (.one (.d (.bool true)))))] none) (.exit 4)) (.seq (.reg (some [11, 1, 10, 8, 99, 9, 12, 100, 101, 13, 15]) false [
  oO 113 (.mov (.s 15)),
  oO 114 (.bin .other .leq (.c (.one (.d (.int .u8 48)))) (.s 113)),
  oO 115 (.mov (.s 114)),
  oT 116 115 (.mov (.s 15)),
  oT 117 115 (.bin .other .leq (.s 116) (.c (.one (.d (.int .u8 57))))),
  oO 118 (.pick (.s 115) (.s 117) (.c (.one (.d (.bool false))))),
  oO 112 (.mov (.s 118))] none) (.cond (.s 112) (.reg (some [11, 1, 10, 8, 99, 9, 12, 100, 101, 13, 15]) false [
  oO 119 (.mov (.s 15)),
  oO 120 (.bin .other .sub (.s 119) (.c (.one (.d (.int .u8 48))))),
  oO 16 (.mov (.s 120))] none) (.seq (.reg (some [11, 1, 10, 8, 99, 9, 12, 100, 101, 13, 15]) false [
  oO 122 (.mov (.s 15)),
  oO 123 (.call (.f 56) [(false, (.s 122))]),
  oO 124 (.bin .other .leq (.c (.one (.d (.int .u8 97)))) (.s 123)),
  oO 125 (.mov (.s 124)),
  oT 126 125 (.mov (.s 15)),
  oT 127 125 (.call (.f 56) [(false, (.s 126))]),
  oT 128 125 (.bin .other .leq (.s 127) (.c (.one (.d (.int .u8 122))))),
  oO 129 (.pick (.s 125) (.s 128) (.c (.one (.d (.bool false))))),
  oO 121 (.mov (.s 129))] none) (.cond (.s 121) (.reg (some [11, 1, 10, 8, 99, 9, 12, 100, 101, 13, 15]) false [
  oO 130 (.mov (.s 15)),
  oO 131 (.call (.f 56) [(false, (.s 130))]),
  oO 132 (.bin .other .sub (.s 131) (.c (.one (.d (.int .u8 97))))),
  oO 133 (.bin .other .add (.s 132) (.c (.one (.d (.int .u8 10))))),
  oO 16 (.mov (.s 133))] none) (.seq (.reg (some []) false [
  oO 105 (.mkif (.c (.one (.d (.int .i64 2))))),
  oO 6 (.mov (.c (.one (.d (.int .u64 0))))),
  oO 7 (.mov (.s 105))] none) .ret)))))))) (.seq (.seq (.reg (some [11, 1, 10, 8, 99, 9, 12, 100, 101, 16, 13]) false [
  oO 134 (.mov (.s 16)),
  oO 135 (.mov (.s 1)),
  oO 136 (.conv (.int .u8) (.s 135)),
  oO 137 (.bin .other .geq (.s 134) (.s 136))] none) (.cond (.s 137) (.seq (.reg (some []) false [
  oO 138 (.mkif (.c (.one (.d (.int .i64 2))))),
  oO 6 (.mov (.c (.one (.d (.int .u64 0))))),
  oO 7 (.mov (.s 138))] none) .ret) .skip)) (.seq (.seq (.reg (some [11, 1, 10, 8, 99, 9, 12, 100, 101, 16, 13]) false [
  oO 139 (.mov (.s 13)),
  oO 140 (.mov (.s 10)),
  oO 141 (.bin .other .geq (.s 139) (.s 140))] none) (.cond (.s 141) (.seq (.reg (some [11]) false [
  oO 142 (.mov (.s 11)),
  oO 143 (.mkif (.c (.one (.d (.int .i64 1))))),
  oO 6 (.mov (.s 142)),
  oO 7 (.mov (.s 143))] none) .ret) .skip)) (.seq (.reg (some [11, 1, 10, 8, 99, 9, 12, 100, 101, 16, 13]) false [
  oO 144 (.mov (.s 13)),
  oO 145 (.mov (.s 1)),
  oO 146 (.conv (.int .u64) (.s 145)),
  oO 147 (.bin .other .mul (.s 144) (.s 146)),
  oO 13 (.mov (.s 147))] none) (.seq (.reg (some [11, 1, 10, 8, 99, 9, 12, 100, 101, 13, 16]) false [
  oO 148 (.mov (.s 13)),
  oO 149 (.mov (.s 16)),
  oO 150 (.conv (.int .u64) (.s 149)),
  oO 151 (.bin .other .add (.s 148) (.s 150)),
  oO 17 (.mov (.s 151))] none) (.seq (.seq (.reg (some [11, 1, 10, 8, 99, 9, 12, 100, 101, 17, 13]) false [
  oO 152 (.mov (.s 17)),
  oO 153 (.mov (.s 13)),
  oO 154 (.bin .other .lss (.s 152) (.s 153)),
  oO 155 (.mov (.s 154)),
  oF 156 155 (.mov (.s 17)),
  oF 157 155 (.mov (.s 11)),
  oF 158 155 (.bin .other .gtr (.s 156) (.s 157)),
  oO 159 (.pick (.s 155) (.c (.one (.d (.bool true)))) (.s 158))] none) (.cond (.s 159) (.seq (.reg (some [11]) false [
  oO 160 (.mov (.s 11)),
  oO 161 (.mkif (.c (.one (.d (.int .i64 1))))),
  oO 6 (.mov (.s 160)),
  oO 7 (.mov (.s 161))] none) .ret) .skip)) (.reg (some [11, 1, 10, 8, 99, 9, 12, 100, 101, 17]) false [
  oO 162 (.mov (.s 17)),
  oO 13 (.mov (.s 162))] none)))))))))) (.reg (some [11, 1, 13, 10, 8, 99, 9, 12, 100, 101]) false [
  oO 163 (.bin .other .add (.s 101) (.c (.one (.d (.int .i64 1))))),
  oO 101 (.mov (.s 163))] none))))
def k45 : KFunc := ⟨172, [.slot 6, .slot 7], (.seq (.reg (some [1, 0, 2]) false [
  oO 6 (.mov (.c (.one (.d (.int .u64 0))))),
  oO 7 (.mov (.c (.one .nili)))] none) (.seq (.seq (.reg (some [1, 0, 2]) false [
  oO 18 (.mov (.s 0)),
  oO 19 (.bin .other .eql (.s 18) (.c (.one (.d (.str [])))))] none) (.cond (.s 19) (.seq (.reg (some []) false [
  oO 20 (.mkif (.c (.one (.d (.int .i64 2))))),
  oO 6 (.mov (.c (.one (.d (.int .u64 0))))),
  oO 7 (.mov (.s 20))] none) .ret) .skip)) (.seq (.reg (some [1, 0, 2]) false [
  oO 21 (.mov (.s 1)),
  oO 22 (.bin .other .eql (.s 21) (.c (.one (.d (.int .i64 0))))),
  oO 8 (.mov (.s 22))] none) (.seq (.reg (some [1, 8, 0, 2]) false [
  oO 23 (.mov (.s 0)),
  oO 9 (.mov (.s 23))] none) (.seq (.block 0 (.seq (.reg (some [1, 8, 9, 0, 2]) false [
  oO 26 (.mov (.s 1)),
  oO 27 (.bin .other .leq (.c (.one (.d (.int .i64 2)))) (.s 26)),
  oO 28 (.mov (.s 27)),
  oT 29 28 (.mov (.s 1)),
  oT 30 28 (.bin .other .leq (.s 29) (.c (.one (.d (.int .i64 36))))),
  oO 31 (.pick (.s 28) (.s 30) (.c (.one (.d (.bool false))))),
  oO 25 (.mov (.s 31))] none) (.cond (.s 25) .skip (.seq (.reg (some [8, 9, 2, 0, 1]) false [
  oO 33 (.mov (.s 1)),
  oO 34 (.bin .other .eql (.s 33) (.c (.one (.d (.int .i64 0))))),
  oO 32 (.mov (.s 34))] none) (.cond (.s 32) (.seq (.reg (some [8, 9, 2, 0]) false [
  oO 1 (.mov (.c (.one (.d (.int .i64 10)))))] none) (.seq (.reg (some [8, 9, 2, 0, 1]) false [
  oO 35 (.mov (.s 0)),
  oO 36 (.index (.s 35) (.c (.one (.d (.int .i64 0))))),
  oO 37 (.bin .other .eql (.s 36) (.c (.one (.d (.int .u8 48)))))] none) (.cond (.s 37) (.block 1 (.seq (.reg (some [8, 9, 2, 0]) false [
  oO 41 (.mov (.s 0)),
  oO 42 (.len true (.s 41)),
  oO 43 (.bin .other .geq (.s 42) (.c (.one (.d (.int .i64 3))))),
  oO 44 (.mov (.s 43)),
  oT 45 44 (.mov (.s 0)),
  oT 46 44 (.index (.s 45) (.c (.one (.d (.int .i64 1))))),
  oT 47 44 (.call (.f 56) [(false, (.s 46))]),
  oT 48 44 (.bin .other .eql (.s 47) (.c (.one (.d (.int .u8 98))))),
  oO 49 (.pick (.s 44) (.s 48) (.c (.one (.d (.bool false))))),
  oO 40 (.mov (.s 49))] none) (.cond (.s 40) (.seq (.reg (some [8, 9, 2, 0]) false [
  oO 1 (.mov (.c (.one (.d (.int .i64 2)))))] none) (.reg (some [1, 8, 9, 2, 0]) false [
  oO 50 (.mov (.s 0)),
  oO 51 (.sliceS (.s 50) (some (.c (.one (.d (.int .i64 2))))) none),
  oO 0 (.mov (.s 51))] none)) (.seq (.reg (some [8, 9, 2, 0]) false [
  oO 53 (.mov (.s 0)),
  oO 54 (.len true (.s 53)),
  oO 55 (.bin .other .geq (.s 54) (.c (.one (.d (.int .i64 3))))),
  oO 56 (.mov (.s 55)),
  oT 57 56 (.mov (.s 0)),
  oT 58 56 (.index (.s 57) (.c (.one (.d (.int .i64 1))))),
  oT 59 56 (.call (.f 56) [(false, (.s 58))]),
  oT 60 56 (.bin .other .eql (.s 59) (.c (.one (.d (.int .u8 111))))),
  oO 61 (.pick (.s 56) (.s 60) (.c (.one (.d (.bool false))))),
  oO 52 (.mov (.s 61))] none) (.cond (.s 52) (.seq (.reg (some [8, 9, 2, 0]) false [
  oO 1 (.mov (.c (.one (.d (.int .i64 8)))))] none) (.reg (some [1, 8, 9, 2, 0]) false [
  oO 62 (.mov (.s 0)),
  oO 63 (.sliceS (.s 62) (some (.c (.one (.d (.int .i64 2))))) none),
  oO 0 (.mov (.s 63))] none)) (.seq (.reg (some [8, 9, 2, 0]) false [
  oO 65 (.mov (.s 0)),
  oO 66 (.len true (.s 65)),
  oO 67 (.bin .other .geq (.s 66) (.c (.one (.d (.int .i64 3))))),
  oO 68 (.mov (.s 67)),
  oT 69 68 (.mov (.s 0)),
  oT 70 68 (.index (.s 69) (.c (.one (.d (.int .i64 1))))),
  oT 71 68 (.call (.f 56) [(false, (.s 70))]),
  oT 72 68 (.bin .other .eql (.s 71) (.c (.one (.d (.int .u8 120))))),
  oO 73 (.pick (.s 68) (.s 72) (.c (.one (.d (.bool false))))),
  oO 64 (.mov (.s 73))] none) (.cond (.s 64) (.seq (.reg (some [8, 9, 2, 0]) false [
  oO 1 (.mov (.c (.one (.d (.int .i64 16)))))] none) (.reg (some [1, 8, 9, 2, 0]) false [
  oO 74 (.mov (.s 0)),
  oO 75 (.sliceS (.s 74) (some (.c (.one (.d (.int .i64 2))))) none),
  oO 0 (.mov (.s 75))] none)) (.seq (.reg (some [8, 9, 2, 0]) false [
  oO 1 (.mov (.c (.one (.d (.int .i64 8)))))] none) (.reg (some [1, 8, 9, 2, 0]) false [
  oO 38 (.mov (.s 0)),
  oO 39 (.sliceS (.s 38) (some (.c (.one (.d (.int .i64 1))))) none),
  oO 0 (.mov (.s 39))] none))))))))) .skip))) (.seq (.reg (some []) false [
  oO 24 (.mkif (.c (.one (.d (.int .i64 3))))),
  oO 6 (.mov (.c (.one (.d (.int .u64 0))))),
  oO 7 (.mov (.s 24))] none) .ret)))))) (.seq (.seq (.reg (some [1, 8, 9, 0, 2]) false [
  oO 76 (.mov (.s 2)),
  oO 77 (.bin .other .eql (.s 76) (.c (.one (.d (.int .i64 0)))))] none) (.cond (.s 77) (.reg (some [1, 8, 9, 0]) false [
  oO 2 (.mov (.c (.one (.d (.int .i64 64)))))] none) (.seq (.reg (some [1, 8, 9, 0, 2]) false [
  oO 78 (.mov (.s 2)),
  oO 79 (.bin .other .lss (.s 78) (.c (.one (.d (.int .i64 0))))),
  oO 80 (.mov (.s 79)),
  oF 81 80 (.mov (.s 2)),
  oF 82 80 (.bin .other .gtr (.s 81) (.c (.one (.d (.int .i64 64))))),
  oO 83 (.pick (.s 80) (.c (.one (.d (.bool true)))) (.s 82))] none) (.cond (.s 83) (.seq (.reg (some []) false [
  oO 84 (.mkif (.c (.one (.d (.int .i64 4))))),
  oO 6 (.mov (.c (.one (.d (.int .u64 0))))),
  oO 7 (.mov (.s 84))] none) .ret) .skip)))) (.seq (.reg (some [1, 8, 9, 0, 2]) false [
  oO 10 (.mov (.c (.one (.d (.int .u64 0)))))] none) (.seq (.seq (.reg (some [1, 8, 9, 0, 2]) false [
  oO 85 (.mov (.s 1))] none) (.block 2 (.seq (.reg (some [1, 8, 9, 0, 2, 85]) false [
  oO 91 (.bin .other .eql (.s 85) (.c (.one (.d (.int .i64 10))))),
  oO 90 (.mov (.s 91))] none) (.cond (.s 90) (.reg (some [1, 8, 9, 0, 2]) false [
  oO 10 (.mov (.c (.one (.d (.int .u64 1844674407370955162)))))] none) (.seq (.reg (some [1, 8, 9, 0, 2, 85]) false [
  oO 93 (.bin .other .eql (.s 85) (.c (.one (.d (.int .i64 16))))),
  oO 92 (.mov (.s 93))] none) (.cond (.s 92) (.reg (some [1, 8, 9, 0, 2]) false [
  oO 10 (.mov (.c (.one (.d (.int .u64 1152921504606846976)))))] none) (.reg (some [1, 8, 9, 0, 2]) false [
  oO 86 (.mov (.s 1)),
  oO 87 (.conv (.int .u64) (.s 86)),
  oO 88 (.bin .other .quo (.c (.one (.d (.int .u64 18446744073709551615)))) (.s 87)),
  oO 89 (.bin .other .add (.s 88) (.c (.one (.d (.int .u64 1))))),
  oO 10 (.mov (.s 89))] none))))))) (.seq (.reg (some [1, 10, 8, 9, 0, 2]) false [
  oO 94 (.mov (.s 2)),
  oO 95 (.conv (.int .u64) (.s 94)),
  oO 96 (.bin .other .shl (.c (.one (.d (.int .u64 1)))) (.s 95)),
  oO 97 (.bin .other .sub (.s 96) (.c (.one (.d (.int .u64 1))))),
  oO 11 (.mov (.s 97))] none) (.seq (.reg (some [11, 1, 10, 8, 9, 0]) false [
  oO 12 (.mov (.c (.one (.d (.bool false)))))] none) (.seq (.reg (some [11, 1, 10, 8, 9, 12, 0]) false [
  oO 13 (.mov (.c (.one (.d (.int .u64 0)))))] none) (.seq (.seq (.reg (some [11, 1, 13, 10, 8, 9, 12, 0]) false [
  oO 98 (.mov (.s 0)),
  oO 99 (.conv .strBytes (.s 98)),
  oO 100 (.len false (.s 99)),
  oO 101 (.mov (.c (.one (.d (.int .i64 0)))))] none) (.block 3 (.loop 0 (some [11, 1, 13, 10, 8, 99, 9, 100, 101, 12]) true k45_b0))) k45_c0)))))))))))), true⟩
def an45 : Ann := ⟨lkN [(104, [.int .u8])], resT, imB, noB⟩
def h45_0 (Cl : Oracle) (n : Nat) (bx : List (List C)) (m0 : Nat) (S : Go.Abs.St) : Option (V × List (List C)) := iterK 0 (evCA an45 Cl n k45_b0) (some [11, 1, 13, 10, 8, 99, 9, 100, 101, 12]) true m0 S (blockK 3 (seqK (evCA an45 Cl n k45_c0) (retK [.slot 6, .slot 7] true bx)))
def hint50 : Hint := ⟨9, 3, [], [], [(0, (some [0]), false), (1, (some [0]), false)]⟩
def k50 : KFunc := ⟨9, [.slot 2], (.seq (.reg (some [0]) false [
  oO 2 (.mov (.c (.one (.d (.bool false)))))] none) (.seq (.reg (some [0]) false [
  oO 3 (.mov (.s 0)),
  oO 4 (.bin .other .geq (.s 3) (.c (.one (.d (.int .u8 97))))),
  oO 5 (.mov (.s 4)),
  oT 6 5 (.mov (.s 0)),
  oT 7 5 (.bin .other .leq (.s 6) (.c (.one (.d (.int .u8 122))))),
  oO 8 (.pick (.s 5) (.s 7) (.c (.one (.d (.bool false))))),
  oO 2 (.mov (.s 8))] none) .ret)), true⟩
def an50 : Ann := ⟨lkN [], resT, imB, noB⟩
attribute [irreducible] h3_0 h5_0 h6_0 h7_0 h10_0 h10_1 h12_0 h17_0 h28_0 h38_0 h41_0 h42_0 h44_0 h45_0
theorem link3 : compF Tryd.prog nm hint3 Tryd.f3 true = some k3.fn := by kernel_rfl
theorem link4 : compF Tryd.prog nm hint4 Tryd.f4 true = some k4.fn := by kernel_rfl
theorem link5 : compF Tryd.prog nm hint5 Tryd.f5 true = some k5.fn := by kernel_rfl
theorem link6 : compF Tryd.prog nm hint6 Tryd.f6 true = some k6.fn := by kernel_rfl
theorem link7 : compF Tryd.prog nm hint7 Tryd.f7 true = some k7.fn := by kernel_rfl
theorem link8 : compF Tryd.prog nm hint8 Tryd.f8 true = some k8.fn := by kernel_rfl
theorem link9 : compF Tryd.prog nm hint9 Tryd.f9 true = some k9.fn := by kernel_rfl
theorem link10 : compF Tryd.prog nm hint10 Tryd.f10 true = some k10.fn := by kernel_rfl
theorem link12 : compF Tryd.prog nm hint12 Tryd.f12 true = some k12.fn := by kernel_rfl
theorem link13 : compF Tryd.prog nm hint13 Tryd.f13 true = some k13.fn := by kernel_rfl
theorem link14 : compF Tryd.prog nm hint14 Tryd.f14 true = some k14.fn := by kernel_rfl
theorem link15 : compF Tryd.prog nm hint15 Tryd.f15 true = some k15.fn := by kernel_rfl
theorem link17 : compF Tryd.prog nm hint17 Tryd.f17 true = some k17.fn := by kernel_rfl
theorem link19 : compF Tryd.prog nm hint19 Tryd.f19 true = some k19.fn := by kernel_rfl
theorem link20 : compF Tryd.prog nm hint20 Tryd.f20 true = some k20.fn := by kernel_rfl
theorem link21 : compF Tryd.prog nm hint21 Tryd.f21 true = some k21.fn := by kernel_rfl
theorem link23 : compF Tryd.prog nm hint23 Tryd.f23 true = some k23.fn := by kernel_rfl
theorem link24 : compF Tryd.prog nm hint24 Tryd.f24 true = some k24.fn := by kernel_rfl
theorem link25 : compF Tryd.prog nm hint25 Tryd.f25 true = some k25.fn := by kernel_rfl
theorem link26 : compF Tryd.prog nm hint26 Tryd.f26 true = some k26.fn := by kernel_rfl
theorem link27 : compF Tryd.prog nm hint27 Tryd.f27 true = some k27.fn := by kernel_rfl
theorem link28 : compF Tryd.prog nm hint28 Tryd.f28 true = some k28.fn := by kernel_rfl
theorem link29 : compF Tryd.prog nm hint29 Tryd.f29 true = some k29.fn := by kernel_rfl
theorem link30 : compF Tryd.prog nm hint30 Tryd.f30 true = some k30.fn := by kernel_rfl
theorem link31 : compF Tryd.prog nm hint31 Tryd.f31 true = some k31.fn := by kernel_rfl
theorem link32 : compF Tryd.prog nm hint32 Tryd.f32 true = some k32.fn := by kernel_rfl
theorem link36 : compF Tryd.prog nm hint36 Tryd.f36 true = some k36.fn := by kernel_rfl
theorem link37 : compF Tryd.prog nm hint37 Tryd.f37 true = some k37.fn := by kernel_rfl
theorem link38 : compF Tryd.prog nm hint38 Tryd.f38 true = some k38.fn := by kernel_rfl
theorem link39 : compF Tryd.prog nm hint39 Tryd.f39 true = some k39.fn := by kernel_rfl
theorem link41 : compF Tryd.prog nm hint41 Tryd.f41 true = some k41.fn := by kernel_rfl
theorem link42 : compF Tryd.prog nm hint42 Tryd.f42 true = some k42.fn := by kernel_rfl
theorem link43 : compF Tryd.prog nm hint43 Tryd.f43 true = some k43.fn := by kernel_rfl
theorem link44 : compF Tryd.prog nm hint44 Tryd.f44 true = some k44.fn := by kernel_rfl
theorem link45 : compF Tryd.prog nm hint45 Tryd.f45 true = some k45.fn := by kernel_rfl
theorem link50 : compF Tryd.prog nm hint50 Tryd.f50 true = some k50.fn := by kernel_rfl
def tab : Nat → Option IFunc
  | 3 => some k3.fn
  | 4 => some k4.fn
  | 5 => some k5.fn
  | 6 => some k6.fn
  | 7 => some k7.fn
  | 8 => some k8.fn
  | 9 => some k9.fn
  | 10 => some k10.fn
  | 12 => some k12.fn
  | 13 => some k13.fn
  | 14 => some k14.fn
  | 15 => some k15.fn
  | 17 => some k17.fn
  | 19 => some k19.fn
  | 20 => some k20.fn
  | 21 => some k21.fn
  | 23 => some k23.fn
  | 24 => some k24.fn
  | 25 => some k25.fn
  | 26 => some k26.fn
  | 27 => some k27.fn
  | 28 => some k28.fn
  | 29 => some k29.fn
  | 30 => some k30.fn
  | 31 => some k31.fn
  | 32 => some k32.fn
  | 36 => some k36.fn
  | 37 => some k37.fn
  | 38 => some k38.fn
  | 39 => some k39.fn
  | 41 => some k41.fn
  | 42 => some k42.fn
  | 43 => some k43.fn
  | 44 => some k44.fn
  | 45 => some k45.fn
  | 50 => some k50.fn
  | _ => none
theorem tabOk : TabOk Tryd.prog nm tab := by
  refine ⟨by kernel_rfl, ?_⟩
  intro f fn fid h hn
  simp only [nm, Option.some.injEq] at hn
  subst hn
  unfold tab at h
  split at h
  · cases h; exact ⟨Tryd.f3, hint3, true, Tryd.func3, by kernel_rfl, link3⟩
  · cases h; exact ⟨Tryd.f4, hint4, true, Tryd.func4, by kernel_rfl, link4⟩
  · cases h; exact ⟨Tryd.f5, hint5, true, Tryd.func5, by kernel_rfl, link5⟩
  · cases h; exact ⟨Tryd.f6, hint6, true, Tryd.func6, by kernel_rfl, link6⟩
  · cases h; exact ⟨Tryd.f7, hint7, true, Tryd.func7, by kernel_rfl, link7⟩
  · cases h; exact ⟨Tryd.f8, hint8, true, Tryd.func8, by kernel_rfl, link8⟩
  · cases h; exact ⟨Tryd.f9, hint9, true, Tryd.func9, by kernel_rfl, link9⟩
  · cases h; exact ⟨Tryd.f10, hint10, true, Tryd.func10, by kernel_rfl, link10⟩
  · cases h; exact ⟨Tryd.f12, hint12, true, Tryd.func12, by kernel_rfl, link12⟩
  · cases h; exact ⟨Tryd.f13, hint13, true, Tryd.func13, by kernel_rfl, link13⟩
  · cases h; exact ⟨Tryd.f14, hint14, true, Tryd.func14, by kernel_rfl, link14⟩
  · cases h; exact ⟨Tryd.f15, hint15, true, Tryd.func15, by kernel_rfl, link15⟩
  · cases h; exact ⟨Tryd.f17, hint17, true, Tryd.func17, by kernel_rfl, link17⟩
  · cases h; exact ⟨Tryd.f19, hint19, true, Tryd.func19, by kernel_rfl, link19⟩
  · cases h; exact ⟨Tryd.f20, hint20, true, Tryd.func20, by kernel_rfl, link20⟩
  · cases h; exact ⟨Tryd.f21, hint21, true, Tryd.func21, by kernel_rfl, link21⟩
  · cases h; exact ⟨Tryd.f23, hint23, true, Tryd.func23, by kernel_rfl, link23⟩
  · cases h; exact ⟨Tryd.f24, hint24, true, Tryd.func24, by kernel_rfl, link24⟩
  · cases h; exact ⟨Tryd.f25, hint25, true, Tryd.func25, by kernel_rfl, link25⟩
  · cases h; exact ⟨Tryd.f26, hint26, true, Tryd.func26, by kernel_rfl, link26⟩
  · cases h; exact ⟨Tryd.f27, hint27, true, Tryd.func27, by kernel_rfl, link27⟩
  · cases h; exact ⟨Tryd.f28, hint28, true, Tryd.func28, by kernel_rfl, link28⟩
  · cases h; exact ⟨Tryd.f29, hint29, true, Tryd.func29, by kernel_rfl, link29⟩
  · cases h; exact ⟨Tryd.f30, hint30, true, Tryd.func30, by kernel_rfl, link30⟩
  · cases h; exact ⟨Tryd.f31, hint31, true, Tryd.func31, by kernel_rfl, link31⟩
  · cases h; exact ⟨Tryd.f32, hint32, true, Tryd.func32, by kernel_rfl, link32⟩
  · cases h; exact ⟨Tryd.f36, hint36, true, Tryd.func36, by kernel_rfl, link36⟩
  · cases h; exact ⟨Tryd.f37, hint37, true, Tryd.func37, by kernel_rfl, link37⟩
  · cases h; exact ⟨Tryd.f38, hint38, true, Tryd.func38, by kernel_rfl, link38⟩
  · cases h; exact ⟨Tryd.f39, hint39, true, Tryd.func39, by kernel_rfl, link39⟩
  · cases h; exact ⟨Tryd.f41, hint41, true, Tryd.func41, by kernel_rfl, link41⟩
  · cases h; exact ⟨Tryd.f42, hint42, true, Tryd.func42, by kernel_rfl, link42⟩
  · cases h; exact ⟨Tryd.f43, hint43, true, Tryd.func43, by kernel_rfl, link43⟩
  · cases h; exact ⟨Tryd.f44, hint44, true, Tryd.func44, by kernel_rfl, link44⟩
  · cases h; exact ⟨Tryd.f45, hint45, true, Tryd.func45, by kernel_rfl, link45⟩
  · cases h; exact ⟨Tryd.f50, hint50, true, Tryd.func50, by kernel_rfl, link50⟩
  · cases h
end Go.Proofs.YtoefhpgdmkckiaaDoor
