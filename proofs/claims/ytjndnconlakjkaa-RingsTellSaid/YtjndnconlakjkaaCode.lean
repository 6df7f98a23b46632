/- The seat's functions as the evaluator takes them: printed by program. -/
import Derived.Test.YtjndnconlakjkaaChecked
import Derived.KernelRfl
import Derived.Test.YtjndnconlakjkaaAbsBody4
import Derived.Test.YtjndnconlakjkaaAbsK2
set_option maxRecDepth 100000
namespace Go.Proofs.Ytjndnconlakjkaa
open Go Go.Abs
def nm : FuncId → Option Nat := some
def resT : Nat → Option RS := lkN [
  (3, (.val (.one (.bool)) [])),
  (4, (.val (.one (.bool)) [])),
  (5, (.val (.one (.bool)) [])),
  (6, (.val (.one (.bool)) [])),
  (7, (.val (.agg [.im 5, .int .i64, .int .i64]) [])),
  (8, (.val (.one (.bool)) [])),
  (9, (.val (.agg [.im 5, .int .i64, .int .i64]) [])),
  (10, (.val (.agg [.sl 5, .int .i64, .int .i64]) [])),
  (11, (.val (.one (.bool)) [])),
  (12, (.val (.one (.bool)) [])),
  (13, (.val (.one (.bool)) [])),
  (14, (.val (.one (.im 5)) [])),
  (15, (.val (.one (.im 5)) [])),
  (16, (.tup [(.agg [.im 5, .int .i64, .int .i64]), (.agg [.str, .int .i64, .int .i64, .str, .im 1]), (.one (.bool))] [])),
  (17, (.tup [(.agg [.im 5, .int .i64, .int .i64]), (.agg [.str, .int .i64, .int .i64, .str, .im 1]), (.one (.bool))] [])),
  (18, (.tup [(.agg [.im 5, .int .i64, .int .i64]), (.one (.bool))] [])),
  (19, (.tup [(.agg [.im 5, .int .i64, .int .i64]), (.one (.bool))] [])),
  (20, (.val (.one (.int .i64)) [])),
  (21, (.val (.one (.sl 5)) [])),
  (22, (.val (.one (.int .i64)) [])),
  (23, (.val (.one (.bool)) [])),
  (24, (.val (.one (.bool)) [])),
  (25, (.val (.one (.bool)) [])),
  (26, (.val (.agg [.str, .int .i64, .int .i64, .str, .im 1]) [])),
  (27, (.val (.agg [.sl 5, .int .i64, .int .i64]) [])),
  (28, (.val (.agg [.int .i64, .int .i64, .str, .im 1]) [])),
  (29, (.val (.one (.bool)) [])),
  (30, (.val (.one (.im 1)) [])),
  (31, (.val (.one (.sl 5)) []))]
def hint3 : Hint := ⟨124, 22, [], [], [(0, (some [3, 2, 1, 0]), false), (1, (some [3, 2, 1, 4]), false), (2, (some []), false), (3, (some [3, 2, 1, 4]), false), (4, (some []), false), (5, (some [3, 2, 1, 4]), false), (6, (some [9, 3, 2, 1]), false), (7, (some [9, 3, 2]), false), (8, (some [9, 3, 2]), false), (9, (some []), false), (10, (some [9, 3]), false), (11, (some [10, 9, 3]), false), (12, (some [10, 9, 3, 11]), true), (14, (some [10, 9, 3, 11]), false), (15, (some []), false), (16, (some [10, 9, 3, 11]), false), (17, (some [10, 9, 3, 11]), false), (18, (some [10, 9, 3, 11]), false), (19, (some [10, 9, 3, 11, 12, 13, 14]), false), (20, (some [10, 9, 3, 11, 15, 12, 16, 13, 17, 14]), false), (21, (some []), false), (22, (some [10, 9, 3, 11, 15, 12]), false), (23, (some [10, 9, 3, 11]), false), (24, (some [10, 9, 3, 11, 18, 19]), false), (25, (some [10, 9, 3, 11, 20, 18, 21, 19]), false), (26, (some []), false), (27, (some [10, 9, 3, 11, 20, 18]), false), (13, (some [10, 9, 3, 11]), false), (28, (some []), false)]⟩
def k3_c0 : KCode := (.seq (.reg (some []) false [
  oO 8 (.mov (.c (.one (.d (.bool true)))))] none) .ret)
def k3_b0 : KCode := (.seq (.seq (.reg none false [
  oO 40 (.mov (.s 11)),
  oO 41 (.mov (.s 3)),
  oO 42 (.len false (.s 41)),
  oO 43 (.bin .other .leq (.s 40) (.s 42))] none) (.cond (.s 43) .skip (.exit 0))) (.seq (.block 1 (.seq (.seq (.reg (some [10, 9, 3, 11]) false [
  oO 46 (.load 3 true (.s 9)),
  oO 47 (.call (.f 11) [(false, (.t 46))]),
  oO 48 (.load 3 true (.s 10)),
  oO 49 (.call (.f 12) [(false, (.t 48))]),
  oO 50 (.bin .bool .neq (.s 47) (.s 49)),
  oO 51 (.mov (.s 50)),
  oF 52 51 (.load 3 true (.s 9)),
  oF 53 51 (.call (.f 14) [(false, (.t 52))]),
  oF 54 51 (.load 3 true (.s 10)),
  oF 55 51 (.call (.f 15) [(false, (.t 54))]),
  oF 56 51 (.call (.f 13) [(false, (.t 53)), (false, (.t 55))]),
  oF 57 51 (.un .not (.s 56)),
  oO 58 (.pick (.s 51) (.c (.one (.d (.bool true)))) (.s 57)),
  oO 59 (.mov (.s 58)),
  oF 60 59 (.load 3 true (.s 9)),
  oF 61 59 (.load 3 true (.s 10)),
  oF 62 59 (.call (.f 8) [(false, (.t 60)), (false, (.t 61))]),
  oF 63 59 (.un .not (.s 62)),
  oO 64 (.pick (.s 59) (.c (.one (.d (.bool true)))) (.s 63))] (some [(0, 2), (1, 2), (6, 8), (7, 8), (14, 15)])) (.cond (.s 64) (.seq (.reg (some []) false [
  oO 8 (.mov (.c (.one (.d (.bool false)))))] none) .ret) .skip)) (.seq (.seq (.reg (some [10, 9, 3, 11]) false [
  oO 65 (.mov (.s 11)),
  oO 66 (.mov (.s 3)),
  oO 67 (.len false (.s 66)),
  oO 68 (.bin .other .eql (.s 65) (.s 67))] none) (.cond (.s 68) (.exit 0) .skip)) (.seq (.seq (.reg (some [10, 9, 3, 11]) false [
  oO 69 (.mov (.s 3)),
  oO 70 (.mov (.s 11)),
  oO 71 (.indexA 6 (.s 69) (.s 70)),
  oO 72 (.fieldA 0 (.s 71)),
  oO 73 (.load 1 false (.s 72))] none) (.cond (.s 73) (.seq (.reg (some [10, 9, 3, 11]) false [
  oO 75 (.load 3 true (.s 9)),
  oO 76 (.call (.f 16) [(false, (.t 75))]),
  oO 74 (.mov (.s 76)),
  oO 77 (.extract 0 (.s 74)),
  oO 78 (.extract 1 (.s 74)),
  oO 79 (.extract 2 (.s 74)),
  oO 12 (.alloc [(.d (.sl (.im true) 5 [])), (.d (.int .i64 0)), (.d (.int .i64 0))]),
  oO 13 (.alloc [(.d (.str [])), (.d (.int .i64 0)), (.d (.int .i64 0)), (.d (.str [])), (.d (.sl (.im true) 1 []))]),
  oN (.store false 3 (.s 12) (.t 77)),
  oN (.store false 5 (.s 13) (.t 78)),
  oO 14 (.mov (.s 79))] none) (.seq (.reg (some [10, 9, 3, 11, 12, 13, 14]) false [
  oO 81 (.load 3 true (.s 10)),
  oO 82 (.call (.f 17) [(false, (.t 81))]),
  oO 80 (.mov (.s 82)),
  oO 83 (.extract 0 (.s 80)),
  oO 84 (.extract 1 (.s 80)),
  oO 85 (.extract 2 (.s 80)),
  oO 15 (.alloc [(.d (.sl (.im true) 5 [])), (.d (.int .i64 0)), (.d (.int .i64 0))]),
  oO 16 (.alloc [(.d (.str [])), (.d (.int .i64 0)), (.d (.int .i64 0)), (.d (.str [])), (.d (.sl (.im true) 1 []))]),
  oN (.store false 3 (.s 15) (.t 83)),
  oN (.store false 5 (.s 16) (.t 84)),
  oO 17 (.mov (.s 85))] none) (.seq (.seq (.reg (some [10, 9, 3, 11, 15, 12, 16, 13, 17, 14]) false [
  oO 86 (.mov (.s 14)),
  oO 87 (.mov (.s 17)),
  oO 88 (.bin .bool .neq (.s 86) (.s 87)),
  oO 89 (.mov (.s 88)),
  oF 90 89 (.load 5 true (.s 13)),
  oF 91 89 (.bslice 5 [[(.str []), (.int .i64 0), (.int .i64 0), (.str []), (.sl (.im true) 1 [])]] [(0, (.t 90))]),
  oF 92 89 (.load 5 true (.s 16)),
  oF 93 89 (.bslice 5 [[(.str []), (.int .i64 0), (.int .i64 0), (.str []), (.sl (.im true) 1 [])]] [(0, (.t 92))]),
  oF 94 89 (.call (.f 13) [(false, (.t 91)), (false, (.t 93))]),
  oF 95 89 (.un .not (.s 94)),
  oO 96 (.pick (.s 89) (.c (.one (.d (.bool true)))) (.s 95))] none) (.cond (.s 96) (.seq (.reg (some []) false [
  oO 8 (.mov (.c (.one (.d (.bool false)))))] none) .ret) .skip)) (.seq (.reg (some [10, 9, 3, 11, 15, 12]) false [
  oO 97 (.load 3 true (.s 12)),
  oO 98 (.load 3 true (.s 15)),
  oN (.store false 3 (.s 9) (.t 97)),
  oN (.store false 3 (.s 10) (.t 98))] (some [(0, 1), (1, 2)])) (.exit 1))))) .skip)) (.seq (.reg (some [10, 9, 3, 11]) false [
  oO 100 (.load 3 true (.s 9)),
  oO 101 (.mov (.s 3)),
  oO 102 (.mov (.s 11)),
  oO 103 (.indexA 6 (.s 101) (.s 102)),
  oO 104 (.fieldA 1 (.s 103)),
  oO 105 (.load 5 true (.s 104)),
  oO 106 (.call (.f 18) [(false, (.t 100)), (false, (.t 105))]),
  oO 99 (.mov (.s 106)),
  oO 107 (.extract 0 (.s 99)),
  oO 108 (.extract 1 (.s 99)),
  oO 18 (.alloc [(.d (.sl (.im true) 5 [])), (.d (.int .i64 0)), (.d (.int .i64 0))]),
  oN (.store false 3 (.s 18) (.t 107)),
  oO 19 (.mov (.s 108))] (some [(0, 1), (0, 2), (1, 2), (0, 3), (0, 4), (0, 5), (8, 9), (0, 10), (1, 10), (2, 10), (3, 10), (4, 10), (5, 10), (6, 10), (7, 10), (8, 10), (9, 10), (9, 11)])) (.seq (.reg (some [10, 9, 3, 11, 18, 19]) false [
  oO 110 (.load 3 true (.s 10)),
  oO 111 (.mov (.s 3)),
  oO 112 (.mov (.s 11)),
  oO 113 (.indexA 6 (.s 111) (.s 112)),
  oO 114 (.fieldA 1 (.s 113)),
  oO 115 (.load 5 true (.s 114)),
  oO 116 (.call (.f 19) [(false, (.t 110)), (false, (.t 115))]),
  oO 109 (.mov (.s 116)),
  oO 117 (.extract 0 (.s 109)),
  oO 118 (.extract 1 (.s 109)),
  oO 20 (.alloc [(.d (.sl (.im true) 5 [])), (.d (.int .i64 0)), (.d (.int .i64 0))]),
  oN (.store false 3 (.s 20) (.t 117)),
  oO 21 (.mov (.s 118))] (some [(0, 1), (0, 2), (1, 2), (0, 3), (0, 4), (0, 5), (8, 9), (0, 10), (1, 10), (2, 10), (3, 10), (4, 10), (5, 10), (6, 10), (7, 10), (8, 10), (9, 10), (9, 11)])) (.seq (.seq (.reg (some [10, 9, 3, 11, 20, 18, 21, 19]) false [
  oO 119 (.mov (.s 19)),
  oO 120 (.mov (.s 21)),
  oO 121 (.bin .bool .neq (.s 119) (.s 120))] none) (.cond (.s 121) (.seq (.reg (some []) false [
  oO 8 (.mov (.c (.one (.d (.bool false)))))] none) .ret) .skip)) (.reg (some [10, 9, 3, 11, 20, 18]) false [
  oO 122 (.load 3 true (.s 18)),
  oO 123 (.load 3 true (.s 20)),
  oN (.store false 3 (.s 9) (.t 122)),
  oN (.store false 3 (.s 10) (.t 123))] (some [(0, 1), (1, 2)]))))))))) (.reg (some [10, 9, 3, 11]) false [
  oO 44 (.mov (.s 11)),
  oO 45 (.bin .other .add (.s 44) (.c (.one (.d (.int .i64 1))))),
  oO 11 (.mov (.s 45))] none)))
def k3 : KFunc := ⟨124, [.slot 8], (.seq (.reg (some [3, 2, 1, 0]) false [
  oO 4 (.box 3 (.s 0)),
  oO 8 (.mov (.c (.one (.d (.bool false)))))] none) (.seq (.seq (.reg (some [3, 2, 1, 4]) false [
  oO 22 (.call (.f 5) []),
  oO 23 (.un .not (.s 22))] none) (.cond (.s 23) (.seq (.reg (some []) false [
  oO 8 (.mov (.c (.one (.d (.bool false)))))] none) .ret) .skip)) (.seq (.seq (.reg (some [3, 2, 1, 4]) false [
  oO 24 (.load 3 true (.s 4)),
  oO 25 (.mov (.s 3)),
  oO 26 (.call (.f 6) [(false, (.t 24)), (false, (.t 25))]),
  oO 27 (.un .not (.s 26))] none) (.cond (.s 27) (.seq (.reg (some []) false [
  oO 8 (.mov (.c (.one (.d (.bool true)))))] none) .ret) .skip)) (.seq (.reg (some [3, 2, 1, 4]) false [
  oO 28 (.load 3 true (.s 4)),
  oO 9 (.alloc [(.d (.sl (.im true) 5 [])), (.d (.int .i64 0)), (.d (.int .i64 0))]),
  oN (.store false 3 (.s 9) (.t 28))] none) (.seq (.seq (.reg (some [9, 3, 2, 1]) false [
  oO 29 (.mov (.s 1)),
  oO 30 (.un .not (.s 29))] none) (.cond (.s 30) (.seq (.reg (some [9, 3, 2]) false [
  oO 31 (.mov (.s 2)),
  oO 32 (.call (.f 7) [(false, (.s 31))]),
  oN (.store false 3 (.s 9) (.t 32))] none) (.seq (.reg (some [9, 3, 2]) false [
  oO 33 (.load 3 true (.s 9)),
  oO 34 (.mov (.s 2)),
  oO 35 (.call (.f 9) [(false, (.s 34))]),
  oO 36 (.call (.f 8) [(false, (.t 33)), (false, (.t 35))]),
  oO 37 (.un .not (.s 36))] (some [(0, 1), (0, 2)])) (.cond (.s 37) (.seq (.reg (some []) false [
  oO 8 (.mov (.c (.one (.d (.bool false)))))] none) .ret) .skip))) .skip)) (.seq (.reg (some [9, 3]) false [
  oO 38 (.load 3 true (.s 9)),
  oO 39 (.call (.f 10) [(false, (.t 38))]),
  oO 10 (.alloc [(.d (.sl (.im true) 5 [])), (.d (.int .i64 0)), (.d (.int .i64 0))]),
  oN (.store false 3 (.s 10) (.t 39))] none) (.seq (.seq (.reg (some [10, 9, 3]) false [
  oO 11 (.mov (.c (.one (.d (.int .i64 0)))))] none) (.block 0 (.loop 0 (some [10, 9, 3, 11]) true k3_b0))) k3_c0))))))), true⟩
def an3 : Ann := ⟨lkN [(24, [.im 5, .int .i64, .int .i64]), (28, [.im 5, .int .i64, .int .i64]), (9, [.im 5, .int .i64, .int .i64]), (9, [.im 5, .int .i64, .int .i64]), (33, [.im 5, .int .i64, .int .i64]), (38, [.im 5, .int .i64, .int .i64]), (10, [.im 5, .int .i64, .int .i64]), (46, [.im 5, .int .i64, .int .i64]), (48, [.im 5, .int .i64, .int .i64]), (52, [.im 5, .int .i64, .int .i64]), (54, [.im 5, .int .i64, .int .i64]), (60, [.im 5, .int .i64, .int .i64]), (61, [.im 5, .int .i64, .int .i64]), (73, [.bool]), (75, [.im 5, .int .i64, .int .i64]), (12, [.im 5, .int .i64, .int .i64]), (13, [.str, .int .i64, .int .i64, .str, .im 1]), (81, [.im 5, .int .i64, .int .i64]), (15, [.im 5, .int .i64, .int .i64]), (16, [.str, .int .i64, .int .i64, .str, .im 1]), (90, [.str, .int .i64, .int .i64, .str, .im 1]), (92, [.str, .int .i64, .int .i64, .str, .im 1]), (97, [.im 5, .int .i64, .int .i64]), (98, [.im 5, .int .i64, .int .i64]), (9, [.im 5, .int .i64, .int .i64]), (10, [.im 5, .int .i64, .int .i64]), (100, [.im 5, .int .i64, .int .i64]), (105, [.str, .int .i64, .int .i64, .str, .im 1]), (18, [.im 5, .int .i64, .int .i64]), (110, [.im 5, .int .i64, .int .i64]), (115, [.str, .int .i64, .int .i64, .str, .im 1]), (20, [.im 5, .int .i64, .int .i64]), (122, [.im 5, .int .i64, .int .i64]), (123, [.im 5, .int .i64, .int .i64]), (9, [.im 5, .int .i64, .int .i64]), (10, [.im 5, .int .i64, .int .i64])], resT⟩
def h3_0 (Cl : Oracle) (n : Nat) (bx : List (List C)) (m0 : Nat) (S : Go.Abs.St) : Option (V × List (List C)) := iterK 0 (evCA an3 Cl n k3_b0) (some [10, 9, 3, 11]) true m0 S (blockK 0 (seqK (evCA an3 Cl n k3_c0) (retK [.slot 8] true bx)))
def hint4 : Hint := ⟨105, 14, [], [], [(0, (some [1, 0]), false), (1, (some [1, 0]), false), (2, (some []), false), (3, (some [1, 0]), false), (4, (some []), false), (5, (some [1, 0]), false), (6, (some [1, 5]), false), (7, (some [6, 1, 5]), false), (8, (some [6, 7, 1, 5]), false), (9, (some [6, 1, 5, 8, 7]), true), (11, (some [6, 1, 5, 8, 7]), false), (12, (some [6, 1, 5, 8, 7]), false), (13, (some [6, 1, 5, 8, 9, 7, 11, 10]), false), (14, (some []), false), (15, (some [6, 1, 5, 8, 9, 7, 11]), false), (16, (some [6, 1, 5, 8, 9, 7]), false), (17, (some [6, 7, 1, 5, 8, 9]), false), (18, (some [6, 1, 5, 8, 7]), false), (19, (some [6, 1, 5, 8, 12, 7, 13]), false), (20, (some []), false), (21, (some [6, 1, 5, 8, 12, 7, 13]), false), (22, (some [6, 1, 5, 8, 12, 7]), false), (23, (some [6, 7, 1, 5, 8, 12]), false), (24, (some [6, 7, 1, 5, 8]), false), (25, (some []), false), (10, (some [6, 7, 1, 5, 8]), false), (26, (some []), false)]⟩
def k4_c0 : KCode := (.seq (.reg (some []) false [
  oO 4 (.mov (.c (.one (.d (.bool true)))))] none) .ret)
def k4_b0 : KCode := (.seq (.seq (.reg none false [
  oO 24 (.mov (.s 8)),
  oO 25 (.mov (.s 1)),
  oO 26 (.len false (.s 25)),
  oO 27 (.bin .other .lss (.s 24) (.s 26))] none) (.cond (.s 27) .skip (.exit 0))) (.seq (.block 1 (.seq (.seq (.reg (some [6, 1, 5, 8, 7]) false [
  oO 30 (.mov (.s 1)),
  oO 31 (.mov (.s 8)),
  oO 32 (.indexA 6 (.s 30) (.s 31)),
  oO 33 (.fieldA 0 (.s 32)),
  oO 34 (.load 1 false (.s 33))] none) (.cond (.s 34) (.seq (.reg (some [6, 1, 5, 8, 7]) false [
  oO 36 (.load 3 true (.s 6)),
  oO 37 (.call (.f 16) [(false, (.t 36))]),
  oO 35 (.mov (.s 37)),
  oO 38 (.extract 0 (.s 35)),
  oO 39 (.extract 1 (.s 35)),
  oO 40 (.extract 2 (.s 35)),
  oO 9 (.alloc [(.d (.sl (.im true) 5 [])), (.d (.int .i64 0)), (.d (.int .i64 0))]),
  oO 10 (.alloc [(.d (.str [])), (.d (.int .i64 0)), (.d (.int .i64 0)), (.d (.str [])), (.d (.sl (.im true) 1 []))]),
  oN (.store false 3 (.s 9) (.t 38)),
  oN (.store false 5 (.s 10) (.t 39)),
  oO 11 (.mov (.s 40))] none) (.seq (.seq (.reg (some [6, 1, 5, 8, 9, 7, 11, 10]) false [
  oO 41 (.mov (.s 11)),
  oO 42 (.mov (.s 7)),
  oO 43 (.len false (.s 42)),
  oO 44 (.bin .other .gtr (.s 43) (.c (.one (.d (.int .i64 0))))),
  oO 45 (.bin .bool .neq (.s 41) (.s 44)),
  oO 46 (.mov (.s 45)),
  oF 47 46 (.mov (.s 11)),
  oF 48 46 (.mov (.s 47)),
  oT 49 48 (.load 5 true (.s 10)),
  oT 50 48 (.bslice 5 [[(.str []), (.int .i64 0), (.int .i64 0), (.str []), (.sl (.im true) 1 [])]] [(0, (.t 49))]),
  oT 51 48 (.mov (.s 7)),
  oT 52 48 (.slice 5 (.s 51) none (some (.c (.one (.d (.int .i64 1))))) none),
  oT 53 48 (.call (.f 13) [(false, (.t 50)), (false, (.t 52))]),
  oT 54 48 (.un .not (.s 53)),
  oF 55 46 (.pick (.s 48) (.s 54) (.c (.one (.d (.bool false))))),
  oO 56 (.pick (.s 46) (.c (.one (.d (.bool true)))) (.s 55))] (some [(0, 1), (0, 2), (0, 3), (8, 10), (9, 10), (8, 11), (9, 11)])) (.cond (.s 56) (.seq (.reg (some []) false [
  oO 4 (.mov (.c (.one (.d (.bool false)))))] none) .ret) .skip)) (.seq (.seq (.reg (some [6, 1, 5, 8, 9, 7, 11]) false [
  oO 57 (.mov (.s 11))] none) (.cond (.s 57) (.reg (some [6, 1, 5, 8, 9, 7]) false [
  oO 58 (.mov (.s 7)),
  oO 59 (.slice 5 (.s 58) (some (.c (.one (.d (.int .i64 1))))) none none),
  oO 7 (.mov (.t 59))] none) .skip)) (.reg (some [6, 7, 1, 5, 8, 9]) false [
  oO 60 (.load 3 true (.s 9)),
  oN (.store false 3 (.s 6) (.t 60))] none)))) (.seq (.reg (some [6, 1, 5, 8, 7]) false [
  oO 62 (.load 3 true (.s 6)),
  oO 63 (.mov (.s 1)),
  oO 64 (.mov (.s 8)),
  oO 65 (.indexA 6 (.s 63) (.s 64)),
  oO 66 (.fieldA 1 (.s 65)),
  oO 67 (.load 5 true (.s 66)),
  oO 68 (.call (.f 18) [(false, (.t 62)), (false, (.t 67))]),
  oO 61 (.mov (.s 68)),
  oO 69 (.extract 0 (.s 61)),
  oO 70 (.extract 1 (.s 61)),
  oO 12 (.alloc [(.d (.sl (.im true) 5 [])), (.d (.int .i64 0)), (.d (.int .i64 0))]),
  oN (.store false 3 (.s 12) (.t 69)),
  oO 13 (.mov (.s 70))] (some [(0, 1), (0, 2), (1, 2), (0, 3), (0, 4), (0, 5), (8, 9), (0, 10), (1, 10), (2, 10), (3, 10), (4, 10), (5, 10), (6, 10), (7, 10), (8, 10), (9, 10), (9, 11)])) (.seq (.seq (.reg (some [6, 1, 5, 8, 12, 7, 13]) false [
  oO 71 (.mov (.s 13)),
  oO 72 (.mov (.s 7)),
  oO 73 (.len false (.s 72)),
  oO 74 (.mov (.s 5)),
  oO 75 (.bin .other .lss (.s 73) (.s 74)),
  oO 76 (.bin .bool .neq (.s 71) (.s 75))] none) (.cond (.s 76) (.seq (.reg (some []) false [
  oO 4 (.mov (.c (.one (.d (.bool false)))))] none) .ret) .skip)) (.seq (.seq (.reg (some [6, 1, 5, 8, 12, 7, 13]) false [
  oO 77 (.mov (.s 13))] none) (.cond (.s 77) (.reg (some [6, 1, 5, 8, 12, 7]) false [
  oO 78 (.mov (.s 7)),
  oO 79 (.app 5 72 (.c (.one (.d (.sl (.im true) 5 [])))) (.t 78)),
  oO 80 (.mov (.s 1)),
  oO 81 (.mov (.s 8)),
  oO 82 (.indexA 6 (.s 80) (.s 81)),
  oO 83 (.fieldA 1 (.s 82)),
  oO 84 (.load 5 true (.s 83)),
  oO 85 (.bslice 5 [[(.str []), (.int .i64 0), (.int .i64 0), (.str []), (.sl (.im true) 1 [])]] [(0, (.t 84))]),
  oO 86 (.app 5 72 (.t 79) (.t 85)),
  oO 7 (.mov (.t 86))] (some [(0, 2), (1, 2), (0, 3), (1, 3), (2, 3), (0, 4), (1, 4), (0, 5), (1, 5), (0, 6), (1, 6), (0, 7), (1, 7)])) .skip)) (.reg (some [6, 7, 1, 5, 8, 12]) false [
  oO 87 (.load 3 true (.s 12)),
  oN (.store false 3 (.s 6) (.t 87))] none)))))) (.seq (.reg (some [6, 7, 1, 5, 8]) false [
  oO 88 (.load 3 true (.s 6)),
  oO 89 (.call (.f 11) [(false, (.t 88))]),
  oO 90 (.un .not (.s 89)),
  oO 91 (.mov (.s 90)),
  oF 92 91 (.fieldA 2 (.s 6)),
  oF 93 91 (.load 1 false (.s 92)),
  oF 94 91 (.mov (.s 7)),
  oF 95 91 (.len false (.s 94)),
  oF 96 91 (.bin .other .neq (.s 93) (.s 95)),
  oO 97 (.pick (.s 91) (.c (.one (.d (.bool true)))) (.s 96)),
  oO 98 (.mov (.s 97)),
  oF 99 98 (.load 3 true (.s 6)),
  oF 100 98 (.call (.f 14) [(false, (.t 99))]),
  oF 101 98 (.mov (.s 7)),
  oF 102 98 (.call (.f 13) [(false, (.t 100)), (false, (.t 101))]),
  oF 103 98 (.un .not (.s 102)),
  oO 104 (.pick (.s 98) (.c (.one (.d (.bool true)))) (.s 103))] none) (.cond (.s 104) (.seq (.reg (some []) false [
  oO 4 (.mov (.c (.one (.d (.bool false)))))] none) .ret) .skip)))) (.reg (some [6, 7, 1, 5, 8]) false [
  oO 28 (.mov (.s 8)),
  oO 29 (.bin .other .add (.s 28) (.c (.one (.d (.int .i64 1))))),
  oO 8 (.mov (.s 29))] none)))
def k4 : KFunc := ⟨105, [.slot 4], (.seq (.reg (some [1, 0]) false [
  oO 4 (.mov (.c (.one (.d (.bool false)))))] none) (.seq (.seq (.reg (some [1, 0]) false [
  oO 14 (.call (.f 5) []),
  oO 15 (.un .not (.s 14))] none) (.cond (.s 15) (.seq (.reg (some []) false [
  oO 4 (.mov (.c (.one (.d (.bool false)))))] none) .ret) .skip)) (.seq (.seq (.reg (some [1, 0]) false [
  oO 16 (.build [(.d (.sl (.im true) 5 [])), (.d (.int .i64 0)), (.d (.int .i64 0))] []),
  oO 17 (.mov (.s 1)),
  oO 18 (.call (.f 6) [(false, (.t 16)), (false, (.t 17))]),
  oO 19 (.un .not (.s 18))] none) (.cond (.s 19) (.seq (.reg (some []) false [
  oO 4 (.mov (.c (.one (.d (.bool true)))))] none) .ret) .skip)) (.seq (.reg (some [1, 0]) false [
  oO 20 (.mov (.s 0)),
  oO 21 (.call (.f 20) [(false, (.s 20)), (false, (.c (.one (.d (.int .i64 20)))))]),
  oO 5 (.mov (.s 21))] none) (.seq (.reg (some [1, 5]) false [
  oO 22 (.mov (.s 5)),
  oO 23 (.call (.f 7) [(false, (.s 22))]),
  oO 6 (.alloc [(.d (.sl (.im true) 5 [])), (.d (.int .i64 0)), (.d (.int .i64 0))]),
  oN (.store false 3 (.s 6) (.t 23))] none) (.seq (.reg (some [6, 1, 5]) false [
  oO 7 (.mov (.c (.one (.d (.sl (.im true) 5 [])))))] none) (.seq (.seq (.reg (some [6, 7, 1, 5]) false [
  oO 8 (.mov (.c (.one (.d (.int .i64 0)))))] none) (.block 0 (.loop 0 (some [6, 1, 5, 8, 7]) true k4_b0))) k4_c0))))))), true⟩
def an4 : Ann := ⟨lkN [(6, [.im 5, .int .i64, .int .i64]), (34, [.bool]), (36, [.im 5, .int .i64, .int .i64]), (9, [.im 5, .int .i64, .int .i64]), (10, [.str, .int .i64, .int .i64, .str, .im 1]), (49, [.str, .int .i64, .int .i64, .str, .im 1]), (60, [.im 5, .int .i64, .int .i64]), (6, [.im 5, .int .i64, .int .i64]), (62, [.im 5, .int .i64, .int .i64]), (67, [.str, .int .i64, .int .i64, .str, .im 1]), (12, [.im 5, .int .i64, .int .i64]), (84, [.str, .int .i64, .int .i64, .str, .im 1]), (87, [.im 5, .int .i64, .int .i64]), (6, [.im 5, .int .i64, .int .i64]), (88, [.im 5, .int .i64, .int .i64]), (93, [.int .i64]), (99, [.im 5, .int .i64, .int .i64])], resT⟩
def h4_0 (Cl : Oracle) (n : Nat) (bx : List (List C)) (m0 : Nat) (S : Go.Abs.St) : Option (V × List (List C)) := iterK 0 (evCA an4 Cl n k4_b0) (some [6, 1, 5, 8, 7]) true m0 S (blockK 0 (seqK (evCA an4 Cl n k4_c0) (retK [.slot 4] true bx)))
def hint5 : Hint := ⟨71, 10, [], [], [(0, (some []), false), (1, (some []), false), (2, (some [2, 1]), false), (3, (some [3, 4, 2]), false), (4, (some [3, 6, 4, 2, 5]), false), (5, (some [7, 3, 8, 9, 6, 4, 2]), false)]⟩
def k5 : KFunc := ⟨71, [.slot 0], (.seq (.reg (some []) false [
  oO 0 (.mov (.c (.one (.d (.bool false)))))] none) (.seq (.reg (some []) false [
  oO 11 (.call (.f 7) [(false, (.c (.one (.d (.int .i64 2)))))]),
  oO 12 (.build [(.d (.str [])), (.d (.int .i64 0)), (.d (.int .i64 0)), (.d (.str [])), (.d (.sl (.im true) 1 []))] [(0, 1, (.c (.one (.d (.str [120])))))]),
  oO 13 (.call (.f 18) [(false, (.t 11)), (false, (.t 12))]),
  oO 10 (.mov (.s 13)),
  oO 14 (.extract 0 (.s 10)),
  oO 15 (.extract 1 (.s 10)),
  oO 1 (.alloc [(.d (.sl (.im true) 5 [])), (.d (.int .i64 0)), (.d (.int .i64 0))]),
  oN (.store false 3 (.s 1) (.t 14)),
  oO 2 (.mov (.s 15))] none) (.seq (.reg (some [2, 1]) false [
  oO 17 (.load 3 true (.s 1)),
  oO 18 (.build [(.d (.str [])), (.d (.int .i64 0)), (.d (.int .i64 0)), (.d (.str [])), (.d (.sl (.im true) 1 []))] [(0, 1, (.c (.one (.d (.str [121])))))]),
  oO 19 (.call (.f 18) [(false, (.t 17)), (false, (.t 18))]),
  oO 16 (.mov (.s 19)),
  oO 20 (.extract 0 (.s 16)),
  oO 21 (.extract 1 (.s 16)),
  oO 3 (.alloc [(.d (.sl (.im true) 5 [])), (.d (.int .i64 0)), (.d (.int .i64 0))]),
  oN (.store false 3 (.s 3) (.t 20)),
  oO 4 (.mov (.s 21))] none) (.seq (.reg (some [3, 4, 2]) false [
  oO 23 (.load 3 true (.s 3)),
  oO 24 (.build [(.d (.str [])), (.d (.int .i64 0)), (.d (.int .i64 0)), (.d (.str [])), (.d (.sl (.im true) 1 []))] [(0, 1, (.c (.one (.d (.str [122])))))]),
  oO 25 (.call (.f 18) [(false, (.t 23)), (false, (.t 24))]),
  oO 22 (.mov (.s 25)),
  oO 26 (.extract 0 (.s 22)),
  oO 27 (.extract 1 (.s 22)),
  oO 5 (.alloc [(.d (.sl (.im true) 5 [])), (.d (.int .i64 0)), (.d (.int .i64 0))]),
  oN (.store false 3 (.s 5) (.t 26)),
  oO 6 (.mov (.s 27))] none) (.seq (.reg (some [3, 6, 4, 2, 5]) false [
  oO 29 (.load 3 true (.s 5)),
  oO 30 (.call (.f 16) [(false, (.t 29))]),
  oO 28 (.mov (.s 30)),
  oO 31 (.extract 0 (.s 28)),
  oO 32 (.extract 1 (.s 28)),
  oO 33 (.extract 2 (.s 28)),
  oO 7 (.alloc [(.d (.sl (.im true) 5 [])), (.d (.int .i64 0)), (.d (.int .i64 0))]),
  oO 8 (.alloc [(.d (.str [])), (.d (.int .i64 0)), (.d (.int .i64 0)), (.d (.str [])), (.d (.sl (.im true) 1 []))]),
  oN (.store false 3 (.s 7) (.t 31)),
  oN (.store false 5 (.s 8) (.t 32)),
  oO 9 (.mov (.s 33))] none) (.seq (.reg (some [7, 3, 8, 9, 6, 4, 2]) false [
  oO 34 (.mov (.s 2)),
  oO 35 (.mov (.s 34)),
  oT 36 35 (.mov (.s 4)),
  oO 37 (.pick (.s 35) (.s 36) (.c (.one (.d (.bool false))))),
  oO 38 (.mov (.s 37)),
  oT 39 38 (.mov (.s 6)),
  oT 40 38 (.un .not (.s 39)),
  oO 41 (.pick (.s 38) (.s 40) (.c (.one (.d (.bool false))))),
  oO 42 (.mov (.s 41)),
  oT 43 42 (.mov (.s 9)),
  oO 44 (.pick (.s 42) (.s 43) (.c (.one (.d (.bool false))))),
  oO 45 (.mov (.s 44)),
  oT 46 45 (.fieldA 0 (.s 8)),
  oT 47 45 (.load 1 false (.s 46)),
  oT 48 45 (.bin .other .eql (.s 47) (.c (.one (.d (.str [120]))))),
  oO 49 (.pick (.s 45) (.s 48) (.c (.one (.d (.bool false))))),
  oO 50 (.mov (.s 49)),
  oT 51 50 (.load 3 true (.s 3)),
  oT 52 50 (.call (.f 14) [(false, (.t 51))]),
  oT 53 50 (.len false (.s 52)),
  oT 54 50 (.bin .other .eql (.s 53) (.c (.one (.d (.int .i64 2))))),
  oO 55 (.pick (.s 50) (.s 54) (.c (.one (.d (.bool false))))),
  oO 56 (.mov (.s 55)),
  oT 57 56 (.load 3 true (.s 7)),
  oT 58 56 (.call (.f 14) [(false, (.t 57))]),
  oT 59 56 (.len false (.s 58)),
  oT 60 56 (.bin .other .eql (.s 59) (.c (.one (.d (.int .i64 1))))),
  oO 61 (.pick (.s 56) (.s 60) (.c (.one (.d (.bool false))))),
  oO 62 (.mov (.s 61)),
  oT 63 62 (.load 3 true (.s 7)),
  oT 64 62 (.call (.f 11) [(false, (.t 63))]),
  oO 65 (.pick (.s 62) (.s 64) (.c (.one (.d (.bool false))))),
  oO 66 (.mov (.s 65)),
  oT 67 66 (.call (.f 7) [(false, (.c (.one (.d (.int .i64 2)))))]),
  oT 68 66 (.field 2 1 false (.s 67)),
  oT 69 66 (.bin .other .eql (.s 68) (.c (.one (.d (.int .i64 0))))),
  oO 70 (.pick (.s 66) (.s 69) (.c (.one (.d (.bool false))))),
  oO 0 (.mov (.s 70))] none) .ret)))))), true⟩
def an5 : Ann := ⟨lkN [(1, [.im 5, .int .i64, .int .i64]), (17, [.im 5, .int .i64, .int .i64]), (3, [.im 5, .int .i64, .int .i64]), (23, [.im 5, .int .i64, .int .i64]), (5, [.im 5, .int .i64, .int .i64]), (29, [.im 5, .int .i64, .int .i64]), (7, [.im 5, .int .i64, .int .i64]), (8, [.str, .int .i64, .int .i64, .str, .im 1]), (47, [.str]), (51, [.im 5, .int .i64, .int .i64]), (57, [.im 5, .int .i64, .int .i64]), (63, [.im 5, .int .i64, .int .i64])], resT⟩
def hint6 : Hint := ⟨55, 6, [], [], [(0, (some [1, 0]), false), (1, (some [1, 2]), false), (2, (some [1, 2, 5]), true), (4, (some [1, 2, 5]), false), (5, (some []), false), (3, (some [1, 2, 5]), false), (6, (some [1, 2]), false)]⟩
def k6_c0 : KCode := (.seq (.reg (some [1, 2]) false [
  oO 46 (.fieldA 0 (.s 2)),
  oO 47 (.load 1 false (.s 46)),
  oO 48 (.len false (.s 47)),
  oO 49 (.bin .other .leq (.s 48) (.c (.one (.d (.int .i64 80))))),
  oO 50 (.mov (.s 49)),
  oT 51 50 (.mov (.s 1)),
  oT 52 50 (.len false (.s 51)),
  oT 53 50 (.bin .other .leq (.s 52) (.c (.one (.d (.int .i64 80))))),
  oO 54 (.pick (.s 50) (.s 53) (.c (.one (.d (.bool false))))),
  oO 4 (.mov (.s 54))] none) .ret)
def k6_b0 : KCode := (.seq (.seq (.reg none false [
  oO 6 (.mov (.s 5)),
  oO 7 (.mov (.s 1)),
  oO 8 (.len false (.s 7)),
  oO 9 (.bin .other .lss (.s 6) (.s 8)),
  oO 10 (.mov (.s 9)),
  oT 11 10 (.mov (.s 5)),
  oT 12 10 (.bin .other .lss (.s 11) (.c (.one (.d (.int .i64 100))))),
  oO 13 (.pick (.s 10) (.s 12) (.c (.one (.d (.bool false)))))] none) (.cond (.s 13) .skip (.exit 0))) (.seq (.block 1 (.seq (.reg (some [1, 2, 5]) false [
  oO 16 (.mov (.s 1)),
  oO 17 (.mov (.s 5)),
  oO 18 (.indexA 6 (.s 16) (.s 17)),
  oO 19 (.fieldA 1 (.s 18)),
  oO 20 (.fieldA 0 (.s 19)),
  oO 21 (.load 1 false (.s 20)),
  oO 22 (.len true (.s 21)),
  oO 23 (.bin .other .gtr (.s 22) (.c (.one (.d (.int .i64 100))))),
  oO 24 (.mov (.s 23)),
  oF 25 24 (.mov (.s 1)),
  oF 26 24 (.mov (.s 5)),
  oF 27 24 (.indexA 6 (.s 25) (.s 26)),
  oF 28 24 (.fieldA 1 (.s 27)),
  oF 29 24 (.fieldA 1 (.s 28)),
  oF 30 24 (.fieldA 3 (.s 29)),
  oF 31 24 (.load 1 false (.s 30)),
  oF 32 24 (.len false (.s 31)),
  oF 33 24 (.bin .other .gtr (.s 32) (.c (.one (.d (.int .i64 40))))),
  oO 34 (.pick (.s 24) (.c (.one (.d (.bool true)))) (.s 33)),
  oO 35 (.mov (.s 34)),
  oF 36 35 (.mov (.s 1)),
  oF 37 35 (.mov (.s 5)),
  oF 38 35 (.indexA 6 (.s 36) (.s 37)),
  oF 39 35 (.fieldA 1 (.s 38)),
  oF 40 35 (.fieldA 1 (.s 39)),
  oF 41 35 (.fieldA 2 (.s 40)),
  oF 42 35 (.load 1 false (.s 41)),
  oF 43 35 (.len true (.s 42)),
  oF 44 35 (.bin .other .gtr (.s 43) (.c (.one (.d (.int .i64 200))))),
  oO 45 (.pick (.s 35) (.c (.one (.d (.bool true)))) (.s 44))] none) (.cond (.s 45) (.seq (.reg (some []) false [
  oO 4 (.mov (.c (.one (.d (.bool false)))))] none) .ret) .skip))) (.reg (some [1, 2, 5]) false [
  oO 14 (.mov (.s 5)),
  oO 15 (.bin .other .add (.s 14) (.c (.one (.d (.int .i64 1))))),
  oO 5 (.mov (.s 15))] none)))
def k6 : KFunc := ⟨55, [.slot 4], (.seq (.reg (some [1, 0]) false [
  oO 2 (.box 3 (.s 0)),
  oO 4 (.mov (.c (.one (.d (.bool false)))))] none) (.seq (.seq (.reg (some [1, 2]) false [
  oO 5 (.mov (.c (.one (.d (.int .i64 0)))))] none) (.block 0 (.loop 0 (some [1, 2, 5]) true k6_b0))) k6_c0)), true⟩
def an6 : Ann := ⟨lkN [(21, [.str]), (31, [.im 1]), (42, [.str]), (47, [.im 5])], resT⟩
def h6_0 (Cl : Oracle) (n : Nat) (bx : List (List C)) (m0 : Nat) (S : Go.Abs.St) : Option (V × List (List C)) := iterK 0 (evCA an6 Cl n k6_b0) (some [1, 2, 5]) true m0 S (blockK 0 (seqK (evCA an6 Cl n k6_c0) (retK [.slot 4] true bx)))
def hint7 : Hint := ⟨8, 3, [2], [], [(0, (some [0]), false), (1, (some [2, 0]), false)]⟩
def k7 : KFunc := ⟨8, [.cell 2 3 true], (.seq (.reg (some [0]) false [
  oO 2 (.alloc [(.d (.sl (.im true) 5 [])), (.d (.int .i64 0)), (.d (.int .i64 0))])] none) (.seq (.reg (some [2, 0]) false [
  oO 3 (.mov (.s 0)),
  oO 4 (.min (.s 3) (.c (.one (.d (.int .i64 64))))),
  oO 5 (.max (.c (.one (.d (.int .i64 0)))) (.s 4)),
  oO 6 (.mkslice 5 72 [(.str []), (.int .i64 0), (.int .i64 0), (.str []), (.sl (.im true) 1 [])] (.s 5) (.s 5)),
  oO 7 (.build [(.d (.sl (.im true) 5 [])), (.d (.int .i64 0)), (.d (.int .i64 0))] [(0, 1, (.t 6))]),
  oN (.store true 3 (.s 2) (.t 7))] none) .ret)), true⟩
def an7 : Ann := ⟨lkN [(2, [.im 5, .int .i64, .int .i64])], resT⟩
def hint8 : Hint := ⟨24, 5, [], [], [(0, (some [1, 0]), false), (1, (some [3, 2]), false)]⟩
def k8 : KFunc := ⟨24, [.slot 4], (.seq (.reg (some [1, 0]) false [
  oO 2 (.box 3 (.s 0)),
  oO 3 (.box 3 (.s 1)),
  oO 4 (.mov (.c (.one (.d (.bool false)))))] none) (.seq (.reg (some [3, 2]) false [
  oO 5 (.fieldA 1 (.s 2)),
  oO 6 (.load 1 false (.s 5)),
  oO 7 (.fieldA 1 (.s 3)),
  oO 8 (.load 1 false (.s 7)),
  oO 9 (.bin .other .eql (.s 6) (.s 8)),
  oO 10 (.mov (.s 9)),
  oT 11 10 (.fieldA 2 (.s 2)),
  oT 12 10 (.load 1 false (.s 11)),
  oT 13 10 (.fieldA 2 (.s 3)),
  oT 14 10 (.load 1 false (.s 13)),
  oT 15 10 (.bin .other .eql (.s 12) (.s 14)),
  oO 16 (.pick (.s 10) (.s 15) (.c (.one (.d (.bool false))))),
  oO 17 (.mov (.s 16)),
  oT 18 17 (.fieldA 0 (.s 2)),
  oT 19 17 (.load 1 false (.s 18)),
  oT 20 17 (.fieldA 0 (.s 3)),
  oT 21 17 (.load 1 false (.s 20)),
  oT 22 17 (.call (.f 13) [(false, (.t 19)), (false, (.t 21))]),
  oO 23 (.pick (.s 17) (.s 22) (.c (.one (.d (.bool false))))),
  oO 4 (.mov (.s 23))] none) .ret)), true⟩
def an8 : Ann := ⟨lkN [(6, [.int .i64]), (8, [.int .i64]), (12, [.int .i64]), (14, [.int .i64]), (19, [.im 5]), (21, [.im 5])], resT⟩
def hint9 : Hint := ⟨8, 3, [2], [], [(0, (some [0]), false), (1, (some [2, 0]), false)]⟩
def k9 : KFunc := ⟨8, [.cell 2 3 true], (.seq (.reg (some [0]) false [
  oO 2 (.alloc [(.d (.sl (.im true) 5 [])), (.d (.int .i64 0)), (.d (.int .i64 0))])] none) (.seq (.reg (some [2, 0]) false [
  oO 3 (.mov (.s 0)),
  oO 4 (.max (.s 3) (.c (.one (.d (.int .i64 0))))),
  oO 5 (.min (.s 4) (.c (.one (.d (.int .i64 64))))),
  oO 6 (.mkslice 5 72 [(.str []), (.int .i64 0), (.int .i64 0), (.str []), (.sl (.im true) 1 [])] (.s 5) (.s 5)),
  oO 7 (.build [(.d (.sl (.im true) 5 [])), (.d (.int .i64 0)), (.d (.int .i64 0))] [(0, 1, (.t 6))]),
  oN (.store true 3 (.s 2) (.t 7))] none) .ret)), true⟩
def an9 : Ann := ⟨lkN [(2, [.im 5, .int .i64, .int .i64])], resT⟩
def hint10 : Hint := ⟨11, 3, [2], [], [(0, (some [0]), false), (1, (some [2, 1]), false)]⟩
def k10 : KFunc := ⟨11, [.cell 2 3 true], (.seq (.reg (some [0]) false [
  oO 1 (.box 3 (.s 0)),
  oO 2 (.alloc [(.d (.sl (.im true) 5 [])), (.d (.int .i64 0)), (.d (.int .i64 0))])] none) (.seq (.reg (some [2, 1]) false [
  oO 3 (.fieldA 0 (.s 1)),
  oO 4 (.load 1 false (.s 3)),
  oO 5 (.call (.f 21) [(false, (.t 4))]),
  oO 6 (.fieldA 1 (.s 1)),
  oO 7 (.load 1 false (.s 6)),
  oO 8 (.fieldA 2 (.s 1)),
  oO 9 (.load 1 false (.s 8)),
  oO 10 (.build [(.d (.sl (.im true) 5 [])), (.d (.int .i64 0)), (.d (.int .i64 0))] [(0, 1, (.t 5)), (1, 1, (.s 7)), (2, 1, (.s 9))]),
  oN (.store true 3 (.s 2) (.t 10))] (some [(0, 3), (1, 3), (2, 3), (0, 4), (1, 4), (2, 4), (0, 5), (1, 5), (2, 5), (3, 5), (4, 5), (0, 6), (1, 6), (2, 6), (3, 6), (4, 6)])) .ret)), false⟩
def an10 : Ann := ⟨lkN [(4, [.im 5]), (7, [.int .i64]), (9, [.int .i64]), (2, [.im 5, .int .i64, .int .i64])], resT⟩
def hint11 : Hint := ⟨58, 6, [], [], [(0, (some [0]), false), (1, (some [1]), false), (2, (some [1, 3]), false), (3, (some []), false), (4, (some [1, 3]), false), (5, (some [1, 3, 4]), true), (7, (some [1, 3, 4]), false), (8, (some [1, 3, 4, 5]), false), (9, (some []), false), (6, (some [1, 3, 4]), false), (10, (some []), false)]⟩
def k11_c0 : KCode := (.seq (.reg (some []) false [
  oO 2 (.mov (.c (.one (.d (.bool true)))))] none) .ret)
def k11_b0 : KCode := (.seq (.seq (.reg none false [
  oO 36 (.mov (.s 4)),
  oO 37 (.mov (.s 3)),
  oO 38 (.bin .other .lss (.s 36) (.s 37))] none) (.cond (.s 38) .skip (.exit 0))) (.seq (.block 1 (.seq (.reg (some [1, 3, 4]) false [
  oO 41 (.fieldA 0 (.s 1)),
  oO 42 (.load 1 false (.s 41)),
  oO 43 (.load 3 true (.s 1)),
  oO 44 (.mov (.s 4)),
  oO 45 (.call (.f 22) [(false, (.t 43)), (false, (.s 44))]),
  oO 46 (.indexA 5 (.s 42) (.s 45)),
  oO 47 (.load 5 true (.s 46)),
  oO 5 (.alloc [(.d (.str [])), (.d (.int .i64 0)), (.d (.int .i64 0)), (.d (.str [])), (.d (.sl (.im true) 1 []))]),
  oN (.store false 5 (.s 5) (.t 47))] (some [(0, 2), (1, 2), (0, 3), (1, 3), (2, 3), (0, 4), (1, 4), (0, 7), (1, 7), (2, 7), (3, 7), (4, 7), (5, 7), (6, 7)])) (.seq (.reg (some [1, 3, 4, 5]) false [
  oO 48 (.fieldA 0 (.s 5)),
  oO 49 (.load 1 false (.s 48)),
  oO 50 (.bin .other .neq (.s 49) (.c (.one (.d (.str []))))),
  oO 51 (.mov (.s 50)),
  oF 52 51 (.fieldA 1 (.s 5)),
  oF 53 51 (.load 4 true (.s 52)),
  oF 54 51 (.build [(.d (.int .i64 0)), (.d (.int .i64 0)), (.d (.str [])), (.d (.sl (.im true) 1 []))] []),
  oF 55 51 (.call (.f 23) [(false, (.t 53)), (false, (.t 54))]),
  oF 56 51 (.un .not (.s 55)),
  oO 57 (.pick (.s 51) (.c (.one (.d (.bool true)))) (.s 56))] none) (.cond (.s 57) (.seq (.reg (some []) false [
  oO 2 (.mov (.c (.one (.d (.bool false)))))] none) .ret) .skip)))) (.reg (some [1, 3, 4]) false [
  oO 39 (.mov (.s 4)),
  oO 40 (.bin .other .add (.s 39) (.c (.one (.d (.int .i64 1))))),
  oO 4 (.mov (.s 40))] none)))
def k11 : KFunc := ⟨58, [.slot 2], (.seq (.reg (some [0]) false [
  oO 1 (.box 3 (.s 0)),
  oO 2 (.mov (.c (.one (.d (.bool false)))))] none) (.seq (.reg (some [1]) false [
  oO 6 (.fieldA 0 (.s 1)),
  oO 7 (.load 1 false (.s 6)),
  oO 8 (.len false (.s 7)),
  oO 3 (.mov (.s 8))] none) (.seq (.seq (.reg (some [1, 3]) false [
  oO 9 (.mov (.s 3)),
  oO 10 (.bin .other .gtr (.s 9) (.c (.one (.d (.int .i64 64))))),
  oO 11 (.mov (.s 10)),
  oF 12 11 (.fieldA 2 (.s 1)),
  oF 13 11 (.load 1 false (.s 12)),
  oF 14 11 (.bin .other .lss (.s 13) (.c (.one (.d (.int .i64 0))))),
  oO 15 (.pick (.s 11) (.c (.one (.d (.bool true)))) (.s 14)),
  oO 16 (.mov (.s 15)),
  oF 17 16 (.fieldA 2 (.s 1)),
  oF 18 16 (.load 1 false (.s 17)),
  oF 19 16 (.mov (.s 3)),
  oF 20 16 (.bin .other .gtr (.s 18) (.s 19)),
  oO 21 (.pick (.s 16) (.c (.one (.d (.bool true)))) (.s 20)),
  oO 22 (.mov (.s 21)),
  oF 23 22 (.fieldA 1 (.s 1)),
  oF 24 22 (.load 1 false (.s 23)),
  oF 25 22 (.bin .other .lss (.s 24) (.c (.one (.d (.int .i64 0))))),
  oO 26 (.pick (.s 22) (.c (.one (.d (.bool true)))) (.s 25)),
  oO 27 (.mov (.s 26)),
  oF 28 27 (.fieldA 1 (.s 1)),
  oF 29 27 (.load 1 false (.s 28)),
  oF 30 27 (.mov (.s 3)),
  oF 31 27 (.max (.s 30) (.c (.one (.d (.int .i64 1))))),
  oF 32 27 (.bin .other .geq (.s 29) (.s 31)),
  oO 33 (.pick (.s 27) (.c (.one (.d (.bool true)))) (.s 32))] none) (.cond (.s 33) (.seq (.reg (some []) false [
  oO 2 (.mov (.c (.one (.d (.bool false)))))] none) .ret) .skip)) (.seq (.seq (.reg (some [1, 3]) false [
  oO 34 (.fieldA 2 (.s 1)),
  oO 35 (.load 1 false (.s 34)),
  oO 4 (.mov (.s 35))] none) (.block 0 (.loop 0 (some [1, 3, 4]) true k11_b0))) k11_c0)))), true⟩
def an11 : Ann := ⟨lkN [(7, [.im 5]), (13, [.int .i64]), (18, [.int .i64]), (24, [.int .i64]), (29, [.int .i64]), (35, [.int .i64]), (42, [.im 5]), (43, [.im 5, .int .i64, .int .i64]), (47, [.str, .int .i64, .int .i64, .str, .im 1]), (5, [.str, .int .i64, .int .i64, .str, .im 1]), (49, [.str]), (53, [.int .i64, .int .i64, .str, .im 1])], resT⟩
def h11_0 (Cl : Oracle) (n : Nat) (bx : List (List C)) (m0 : Nat) (S : Go.Abs.St) : Option (V × List (List C)) := iterK 0 (evCA an11 Cl n k11_b0) (some [1, 3, 4]) true m0 S (blockK 0 (seqK (evCA an11 Cl n k11_c0) (retK [.slot 2] true bx)))
def hint12 : Hint := ⟨56, 5, [], [], [(0, (some [0]), false), (1, (some [1]), false), (2, (some [3, 1]), false), (3, (some []), false), (4, (some [3, 1]), false), (5, (some [3, 1, 4]), true), (7, (some [3, 1, 4]), false), (8, (some []), false), (6, (some [3, 1, 4]), false), (9, (some []), false)]⟩
def k12_c0 : KCode := (.seq (.reg (some []) false [
  oO 2 (.mov (.c (.one (.d (.bool true)))))] none) .ret)
def k12_b0 : KCode := (.seq (.seq (.reg none false [
  oO 39 (.mov (.s 4)),
  oO 40 (.mov (.s 3)),
  oO 41 (.bin .other .lss (.s 39) (.s 40))] none) (.cond (.s 41) .skip (.exit 0))) (.seq (.block 1 (.seq (.reg (some [3, 1, 4]) false [
  oO 44 (.fieldA 0 (.s 1)),
  oO 45 (.load 1 false (.s 44)),
  oO 46 (.fieldA 1 (.s 1)),
  oO 47 (.load 1 false (.s 46)),
  oO 48 (.mov (.s 4)),
  oO 49 (.bin .other .add (.s 47) (.s 48)),
  oO 50 (.mov (.s 3)),
  oO 51 (.bin .other .rem (.s 49) (.s 50)),
  oO 52 (.indexA 5 (.s 45) (.s 51)),
  oO 53 (.load 5 true (.s 52)),
  oO 54 (.call (.f 24) [(false, (.t 53))]),
  oO 55 (.un .not (.s 54))] (some [(0, 2), (1, 2), (0, 3), (1, 3), (0, 4), (1, 4), (2, 4), (3, 4), (0, 5), (1, 5), (0, 6), (1, 6), (2, 6), (3, 6), (4, 6), (5, 6), (0, 7), (1, 7)])) (.cond (.s 55) (.seq (.reg (some []) false [
  oO 2 (.mov (.c (.one (.d (.bool false)))))] none) .ret) .skip))) (.reg (some [3, 1, 4]) false [
  oO 42 (.mov (.s 4)),
  oO 43 (.bin .other .add (.s 42) (.c (.one (.d (.int .i64 1))))),
  oO 4 (.mov (.s 43))] none)))
def k12 : KFunc := ⟨56, [.slot 2], (.seq (.reg (some [0]) false [
  oO 1 (.box 3 (.s 0)),
  oO 2 (.mov (.c (.one (.d (.bool false)))))] none) (.seq (.reg (some [1]) false [
  oO 5 (.fieldA 0 (.s 1)),
  oO 6 (.load 1 false (.s 5)),
  oO 7 (.len false (.s 6)),
  oO 3 (.mov (.s 7))] none) (.seq (.seq (.reg (some [3, 1]) false [
  oO 8 (.mov (.s 3)),
  oO 9 (.bin .other .gtr (.s 8) (.c (.one (.d (.int .i64 64))))),
  oO 10 (.mov (.s 9)),
  oF 11 10 (.fieldA 2 (.s 1)),
  oF 12 10 (.load 1 false (.s 11)),
  oF 13 10 (.bin .other .lss (.s 12) (.c (.one (.d (.int .i64 0))))),
  oO 14 (.pick (.s 10) (.c (.one (.d (.bool true)))) (.s 13)),
  oO 15 (.mov (.s 14)),
  oF 16 15 (.fieldA 2 (.s 1)),
  oF 17 15 (.load 1 false (.s 16)),
  oF 18 15 (.mov (.s 3)),
  oF 19 15 (.bin .other .gtr (.s 17) (.s 18)),
  oO 20 (.pick (.s 15) (.c (.one (.d (.bool true)))) (.s 19)),
  oO 21 (.mov (.s 20)),
  oF 22 21 (.fieldA 1 (.s 1)),
  oF 23 21 (.load 1 false (.s 22)),
  oF 24 21 (.bin .other .lss (.s 23) (.c (.one (.d (.int .i64 0))))),
  oO 25 (.pick (.s 21) (.c (.one (.d (.bool true)))) (.s 24)),
  oO 26 (.mov (.s 25)),
  oF 27 26 (.fieldA 1 (.s 1)),
  oF 28 26 (.load 1 false (.s 27)),
  oF 29 26 (.bin .other .gtr (.s 28) (.c (.one (.d (.int .i64 0))))),
  oF 30 26 (.mov (.s 29)),
  oT 31 30 (.fieldA 1 (.s 1)),
  oT 32 30 (.load 1 false (.s 31)),
  oT 33 30 (.mov (.s 3)),
  oT 34 30 (.bin .other .geq (.s 32) (.s 33)),
  oF 35 26 (.pick (.s 30) (.s 34) (.c (.one (.d (.bool false))))),
  oO 36 (.pick (.s 26) (.c (.one (.d (.bool true)))) (.s 35))] none) (.cond (.s 36) (.seq (.reg (some []) false [
  oO 2 (.mov (.c (.one (.d (.bool false)))))] none) .ret) .skip)) (.seq (.seq (.reg (some [3, 1]) false [
  oO 37 (.fieldA 2 (.s 1)),
  oO 38 (.load 1 false (.s 37)),
  oO 4 (.mov (.s 38))] none) (.block 0 (.loop 0 (some [3, 1, 4]) true k12_b0))) k12_c0)))), true⟩
def an12 : Ann := ⟨lkN [(6, [.im 5]), (12, [.int .i64]), (17, [.int .i64]), (23, [.int .i64]), (28, [.int .i64]), (32, [.int .i64]), (38, [.int .i64]), (45, [.im 5]), (47, [.int .i64]), (53, [.str, .int .i64, .int .i64, .str, .im 1])], resT⟩
def h12_0 (Cl : Oracle) (n : Nat) (bx : List (List C)) (m0 : Nat) (S : Go.Abs.St) : Option (V × List (List C)) := iterK 0 (evCA an12 Cl n k12_b0) (some [3, 1, 4]) true m0 S (blockK 0 (seqK (evCA an12 Cl n k12_c0) (retK [.slot 2] true bx)))
def hint13 : Hint := ⟨42, 6, [], [], [(0, (some [1, 0]), false), (1, (some [1, 0]), false), (2, (some []), false), (3, (some [1, 0]), false), (4, (some [1, 0, 5]), true), (6, (some [1, 0, 5]), false), (7, (some []), false), (5, (some [1, 0, 5]), false), (8, (some []), false)]⟩
def k13_c0 : KCode := (.seq (.reg (some []) false [
  oO 4 (.mov (.c (.one (.d (.bool true)))))] none) .ret)
def k13_b0 : KCode := (.seq (.seq (.reg none false [
  oO 11 (.mov (.s 5)),
  oO 12 (.mov (.s 0)),
  oO 13 (.len false (.s 12)),
  oO 14 (.bin .other .lss (.s 11) (.s 13))] none) (.cond (.s 14) .skip (.exit 0))) (.seq (.block 1 (.seq (.reg (some [1, 0, 5]) false [
  oO 17 (.mov (.s 0)),
  oO 18 (.mov (.s 5)),
  oO 19 (.indexA 5 (.s 17) (.s 18)),
  oO 20 (.fieldA 0 (.s 19)),
  oO 21 (.load 1 false (.s 20)),
  oO 22 (.mov (.s 1)),
  oO 23 (.mov (.s 5)),
  oO 24 (.indexA 5 (.s 22) (.s 23)),
  oO 25 (.fieldA 0 (.s 24)),
  oO 26 (.load 1 false (.s 25)),
  oO 27 (.bin .other .neq (.s 21) (.s 26)),
  oO 28 (.mov (.s 27)),
  oF 29 28 (.mov (.s 0)),
  oF 30 28 (.mov (.s 5)),
  oF 31 28 (.indexA 5 (.s 29) (.s 30)),
  oF 32 28 (.fieldA 1 (.s 31)),
  oF 33 28 (.load 4 true (.s 32)),
  oF 34 28 (.mov (.s 1)),
  oF 35 28 (.mov (.s 5)),
  oF 36 28 (.indexA 5 (.s 34) (.s 35)),
  oF 37 28 (.fieldA 1 (.s 36)),
  oF 38 28 (.load 4 true (.s 37)),
  oF 39 28 (.call (.f 25) [(false, (.t 33)), (false, (.t 38))]),
  oF 40 28 (.un .not (.s 39)),
  oO 41 (.pick (.s 28) (.c (.one (.d (.bool true)))) (.s 40))] (some [(0, 1), (0, 5), (1, 5), (2, 5), (3, 5), (4, 5), (0, 6), (1, 6), (2, 6), (3, 6), (4, 6), (5, 6), (0, 7), (1, 7), (2, 7), (3, 7), (4, 7), (0, 8), (1, 8), (2, 8), (3, 8), (4, 8), (0, 9), (1, 9), (2, 9), (3, 9), (4, 9), (12, 13), (12, 17), (13, 17), (14, 17), (15, 17), (16, 17), (12, 18), (13, 18), (14, 18), (15, 18), (16, 18), (17, 18), (12, 19), (13, 19), (14, 19), (15, 19), (16, 19), (12, 20), (13, 20), (14, 20), (15, 20), (16, 20), (12, 21), (13, 21), (14, 21), (15, 21), (16, 21)])) (.cond (.s 41) (.seq (.reg (some []) false [
  oO 4 (.mov (.c (.one (.d (.bool false)))))] none) .ret) .skip))) (.reg (some [1, 0, 5]) false [
  oO 15 (.mov (.s 5)),
  oO 16 (.bin .other .add (.s 15) (.c (.one (.d (.int .i64 1))))),
  oO 5 (.mov (.s 16))] none)))
def k13 : KFunc := ⟨42, [.slot 4], (.seq (.reg (some [1, 0]) false [
  oO 4 (.mov (.c (.one (.d (.bool false)))))] none) (.seq (.seq (.reg (some [1, 0]) false [
  oO 6 (.mov (.s 0)),
  oO 7 (.len false (.s 6)),
  oO 8 (.mov (.s 1)),
  oO 9 (.len false (.s 8)),
  oO 10 (.bin .other .neq (.s 7) (.s 9))] none) (.cond (.s 10) (.seq (.reg (some []) false [
  oO 4 (.mov (.c (.one (.d (.bool false)))))] none) .ret) .skip)) (.seq (.seq (.reg (some [1, 0]) false [
  oO 5 (.mov (.c (.one (.d (.int .i64 0)))))] none) (.block 0 (.loop 0 (some [1, 0, 5]) true k13_b0))) k13_c0))), true⟩
def an13 : Ann := ⟨lkN [(21, [.str]), (26, [.str]), (33, [.int .i64, .int .i64, .str, .im 1]), (38, [.int .i64, .int .i64, .str, .im 1])], resT⟩
def h13_0 (Cl : Oracle) (n : Nat) (bx : List (List C)) (m0 : Nat) (S : Go.Abs.St) : Option (V × List (List C)) := iterK 0 (evCA an13 Cl n k13_b0) (some [1, 0, 5]) true m0 S (blockK 0 (seqK (evCA an13 Cl n k13_c0) (retK [.slot 4] true bx)))
def hint14 : Hint := ⟨26, 5, [], [], [(0, (some [0]), false), (1, (some [1]), false), (2, (some []), false), (3, (some [1]), false), (4, (some [1, 3]), false), (5, (some [1, 9, 10, 3]), true), (6, (some [1, 9, 10, 3]), false), (7, (some [1, 9, 10, 4, 3]), false), (8, (some [1, 3, 9, 10]), false), (9, (some [3]), false)]⟩
def k14_c0 : KCode := (.seq (.reg (some [3]) false [
  oO 25 (.mov (.s 3)),
  oO 2 (.mov (.t 25))] none) .ret)
def k14_b0 : KCode := (.seq (.reg none false [
  oO 11 (.bin .other .lss (.s 10) (.s 9))] none) (.seq (.cond (.s 11) .skip (.exit 0)) (.seq (.block 1 (.seq (.reg (some [1, 9, 10, 3]) false [
  oO 12 (.mov (.s 10)),
  oO 4 (.mov (.s 12))] none) (.reg (some [1, 9, 10, 4, 3]) false [
  oO 13 (.mov (.s 3)),
  oO 14 (.fieldA 0 (.s 1)),
  oO 15 (.load 1 false (.s 14)),
  oO 16 (.load 3 true (.s 1)),
  oO 17 (.mov (.s 4)),
  oO 18 (.call (.f 22) [(false, (.t 16)), (false, (.s 17))]),
  oO 19 (.indexA 5 (.s 15) (.s 18)),
  oO 20 (.load 5 true (.s 19)),
  oO 21 (.call (.f 26) [(false, (.t 20))]),
  oO 22 (.bslice 5 [[(.str []), (.int .i64 0), (.int .i64 0), (.str []), (.sl (.im true) 1 [])]] [(0, (.t 21))]),
  oO 23 (.app 5 72 (.t 13) (.t 22)),
  oO 3 (.mov (.t 23))] (some [(0, 1), (0, 2), (0, 3), (1, 3), (2, 3), (0, 4), (1, 4), (2, 4), (3, 4), (0, 5), (1, 5), (2, 5), (0, 6), (0, 7), (0, 8), (0, 9)])))) (.reg (some [1, 3, 9, 10]) false [
  oO 24 (.bin .other .add (.s 10) (.c (.one (.d (.int .i64 1))))),
  oO 10 (.mov (.s 24))] none))))
def k14 : KFunc := ⟨26, [.slot 2], (.seq (.reg (some [0]) false [
  oO 1 (.box 3 (.s 0)),
  oO 2 (.mov (.c (.one (.d (.sl (.im true) 5 [])))))] none) (.seq (.seq (.reg (some [1]) false [
  oO 5 (.load 3 true (.s 1)),
  oO 6 (.call (.f 11) [(false, (.t 5))]),
  oO 7 (.un .not (.s 6))] none) (.cond (.s 7) (.seq (.reg (some []) false [
  oO 2 (.mov (.c (.one (.d (.sl (.im true) 5 [])))))] none) .ret) .skip)) (.seq (.reg (some [1]) false [
  oO 3 (.mov (.c (.one (.d (.sl (.im true) 5 [])))))] none) (.seq (.seq (.reg (some [1, 3]) false [
  oO 8 (.fieldA 2 (.s 1)),
  oO 9 (.load 1 false (.s 8)),
  oO 10 (.mov (.c (.one (.d (.int .i64 0)))))] none) (.block 0 (.loop 0 (some [1, 9, 10, 3]) true k14_b0))) k14_c0)))), true⟩
def an14 : Ann := ⟨lkN [(5, [.im 5, .int .i64, .int .i64]), (9, [.int .i64]), (15, [.im 5]), (16, [.im 5, .int .i64, .int .i64]), (20, [.str, .int .i64, .int .i64, .str, .im 1])], resT⟩
def h14_0 (Cl : Oracle) (n : Nat) (bx : List (List C)) (m0 : Nat) (S : Go.Abs.St) : Option (V × List (List C)) := iterK 0 (evCA an14 Cl n k14_b0) (some [1, 9, 10, 3]) true m0 S (blockK 0 (seqK (evCA an14 Cl n k14_c0) (retK [.slot 2] true bx)))
def hint15 : Hint := ⟨32, 5, [], [], [(0, (some [0]), false), (1, (some [1]), false), (2, (some [1, 3]), false), (3, (some [1, 4, 3]), true), (5, (some [1, 4, 3]), false), (4, (some [1, 3, 4]), false), (6, (some [3]), false)]⟩
def k15_c0 : KCode := (.seq (.reg (some [3]) false [
  oO 30 (.mov (.s 3)),
  oO 31 (.call (.f 21) [(false, (.t 30))]),
  oO 2 (.mov (.t 31))] none) .ret)
def k15_b0 : KCode := (.seq (.seq (.reg none false [
  oO 5 (.load 3 true (.s 1)),
  oO 6 (.call (.f 12) [(false, (.t 5))]),
  oO 7 (.mov (.s 6)),
  oT 8 7 (.mov (.s 4)),
  oT 9 7 (.fieldA 2 (.s 1)),
  oT 10 7 (.load 1 false (.s 9)),
  oT 11 7 (.bin .other .lss (.s 8) (.s 10)),
  oO 12 (.pick (.s 7) (.s 11) (.c (.one (.d (.bool false)))))] none) (.cond (.s 12) .skip (.exit 0))) (.seq (.block 1 (.reg (some [1, 4, 3]) false [
  oO 15 (.mov (.s 3)),
  oO 16 (.fieldA 0 (.s 1)),
  oO 17 (.load 1 false (.s 16)),
  oO 18 (.fieldA 1 (.s 1)),
  oO 19 (.load 1 false (.s 18)),
  oO 20 (.mov (.s 4)),
  oO 21 (.bin .other .add (.s 19) (.s 20)),
  oO 22 (.fieldA 0 (.s 1)),
  oO 23 (.load 1 false (.s 22)),
  oO 24 (.len false (.s 23)),
  oO 25 (.bin .other .rem (.s 21) (.s 24)),
  oO 26 (.indexA 5 (.s 17) (.s 25)),
  oO 27 (.load 5 true (.s 26)),
  oO 28 (.bslice 5 [[(.str []), (.int .i64 0), (.int .i64 0), (.str []), (.sl (.im true) 1 [])]] [(0, (.t 27))]),
  oO 29 (.app 5 72 (.t 15) (.t 28)),
  oO 3 (.mov (.t 29))] (some [(0, 1), (0, 2), (0, 3), (1, 3), (2, 3), (0, 4), (1, 4), (2, 4), (0, 5), (1, 5), (2, 5), (3, 5), (4, 5), (0, 6), (1, 6), (2, 6), (0, 7), (1, 7), (2, 7), (3, 7), (4, 7), (5, 7), (6, 7), (0, 8), (1, 8), (2, 8), (3, 8), (4, 8), (5, 8), (6, 8), (0, 9), (1, 9), (2, 9), (3, 9), (4, 9), (5, 9), (6, 9), (0, 10), (1, 10), (2, 10), (0, 11), (0, 12), (0, 13)]))) (.reg (some [1, 3, 4]) false [
  oO 13 (.mov (.s 4)),
  oO 14 (.bin .other .add (.s 13) (.c (.one (.d (.int .i64 1))))),
  oO 4 (.mov (.s 14))] none)))
def k15 : KFunc := ⟨32, [.slot 2], (.seq (.reg (some [0]) false [
  oO 1 (.box 3 (.s 0)),
  oO 2 (.mov (.c (.one (.d (.sl (.im true) 5 [])))))] none) (.seq (.reg (some [1]) false [
  oO 3 (.mov (.c (.one (.d (.sl (.im true) 5 [])))))] none) (.seq (.seq (.reg (some [1, 3]) false [
  oO 4 (.mov (.c (.one (.d (.int .i64 0)))))] none) (.block 0 (.loop 0 (some [1, 4, 3]) true k15_b0))) k15_c0))), true⟩
def an15 : Ann := ⟨lkN [(5, [.im 5, .int .i64, .int .i64]), (10, [.int .i64]), (17, [.im 5]), (19, [.int .i64]), (23, [.im 5]), (27, [.str, .int .i64, .int .i64, .str, .im 1])], resT⟩
def h15_0 (Cl : Oracle) (n : Nat) (bx : List (List C)) (m0 : Nat) (S : Go.Abs.St) : Option (V × List (List C)) := iterK 0 (evCA an15 Cl n k15_b0) (some [1, 4, 3]) true m0 S (blockK 0 (seqK (evCA an15 Cl n k15_c0) (retK [.slot 2] true bx)))
def hint16 : Hint := ⟨40, 7, [2, 3], [], [(0, (some [0]), false), (1, (some [2, 3, 1]), false), (2, (some [2, 3, 5, 1]), false), (3, (some [2, 3, 5]), false), (4, (some [2, 3, 5, 1]), false), (5, (some [2, 3, 6, 5, 1]), false), (6, (some [2, 3, 6, 5, 1]), false), (7, (some [2, 3, 6, 5]), false), (8, (some [2, 3, 6, 5]), false)]⟩
def k16 : KFunc := ⟨40, [.cell 2 3 true, .cell 3 5 true, .slot 4], (.seq (.reg (some [0]) false [
  oO 1 (.box 3 (.s 0)),
  oO 2 (.alloc [(.d (.sl (.im true) 5 [])), (.d (.int .i64 0)), (.d (.int .i64 0))]),
  oO 3 (.alloc [(.d (.str [])), (.d (.int .i64 0)), (.d (.int .i64 0)), (.d (.str [])), (.d (.sl (.im true) 1 []))]),
  oO 4 (.mov (.c (.one (.d (.bool false)))))] none) (.seq (.reg (some [2, 3, 1]) false [
  oO 7 (.load 3 true (.s 1)),
  oO 8 (.call (.f 27) [(false, (.t 7))]),
  oO 5 (.alloc [(.d (.sl (.im true) 5 [])), (.d (.int .i64 0)), (.d (.int .i64 0))]),
  oN (.store false 3 (.s 5) (.t 8))] none) (.seq (.seq (.reg (some [2, 3, 5, 1]) false [
  oO 9 (.load 3 true (.s 1)),
  oO 10 (.call (.f 11) [(false, (.t 9))]),
  oO 11 (.un .not (.s 10)),
  oO 12 (.mov (.s 11)),
  oF 13 12 (.fieldA 2 (.s 1)),
  oF 14 12 (.load 1 false (.s 13)),
  oF 15 12 (.bin .other .eql (.s 14) (.c (.one (.d (.int .i64 0))))),
  oO 16 (.pick (.s 12) (.c (.one (.d (.bool true)))) (.s 15))] none) (.cond (.s 16) (.seq (.reg (some [2, 3, 5]) false [
  oO 17 (.load 3 true (.s 5)),
  oO 18 (.build [(.d (.str [])), (.d (.int .i64 0)), (.d (.int .i64 0)), (.d (.str [])), (.d (.sl (.im true) 1 []))] []),
  oN (.store true 3 (.s 2) (.t 17)),
  oN (.store true 5 (.s 3) (.t 18)),
  oO 4 (.mov (.c (.one (.d (.bool false)))))] none) .ret) .skip)) (.seq (.reg (some [2, 3, 5, 1]) false [
  oO 19 (.fieldA 0 (.s 5)),
  oO 20 (.load 1 false (.s 19)),
  oO 21 (.fieldA 1 (.s 5)),
  oO 22 (.load 1 false (.s 21)),
  oO 23 (.indexA 5 (.s 20) (.s 22)),
  oO 24 (.load 5 true (.s 23)),
  oO 6 (.alloc [(.d (.str [])), (.d (.int .i64 0)), (.d (.int .i64 0)), (.d (.str [])), (.d (.sl (.im true) 1 []))]),
  oN (.store false 5 (.s 6) (.t 24))] none) (.seq (.reg (some [2, 3, 6, 5, 1]) false [
  oO 25 (.fieldA 0 (.s 5)),
  oO 26 (.load 1 false (.s 25)),
  oO 27 (.fieldA 1 (.s 5)),
  oO 28 (.load 1 false (.s 27)),
  oO 29 (.build [(.d (.str [])), (.d (.int .i64 0)), (.d (.int .i64 0)), (.d (.str [])), (.d (.sl (.im true) 1 []))] []),
  oO 30 (.indexA 5 (.s 26) (.s 28)),
  oN (.store false 5 (.s 30) (.t 29))] none) (.seq (.reg (some [2, 3, 6, 5, 1]) false [
  oO 31 (.load 3 true (.s 1)),
  oO 32 (.call (.f 22) [(false, (.t 31)), (false, (.c (.one (.d (.int .i64 1)))))]),
  oO 33 (.fieldA 1 (.s 5)),
  oN (.store false 1 (.s 33) (.s 32))] none) (.seq (.reg (some [2, 3, 6, 5]) false [
  oO 34 (.fieldA 2 (.s 5)),
  oO 35 (.load 1 false (.s 34)),
  oO 36 (.bin .other .sub (.s 35) (.c (.one (.d (.int .i64 1))))),
  oO 37 (.fieldA 2 (.s 5)),
  oN (.store false 1 (.s 37) (.s 36))] none) (.seq (.reg (some [2, 3, 6, 5]) false [
  oO 38 (.load 3 true (.s 5)),
  oO 39 (.load 5 true (.s 6)),
  oN (.store true 3 (.s 2) (.t 38)),
  oN (.store true 5 (.s 3) (.t 39)),
  oO 4 (.mov (.c (.one (.d (.bool true)))))] (some [(0, 1), (1, 2)])) .ret)))))))), true⟩
def an16 : Ann := ⟨lkN [(7, [.im 5, .int .i64, .int .i64]), (5, [.im 5, .int .i64, .int .i64]), (9, [.im 5, .int .i64, .int .i64]), (14, [.int .i64]), (17, [.im 5, .int .i64, .int .i64]), (2, [.im 5, .int .i64, .int .i64]), (3, [.str, .int .i64, .int .i64, .str, .im 1]), (20, [.im 5]), (22, [.int .i64]), (24, [.str, .int .i64, .int .i64, .str, .im 1]), (6, [.str, .int .i64, .int .i64, .str, .im 1]), (26, [.im 5]), (28, [.int .i64]), (30, [.str, .int .i64, .int .i64, .str, .im 1]), (31, [.im 5, .int .i64, .int .i64]), (33, [.int .i64]), (35, [.int .i64]), (37, [.int .i64]), (38, [.im 5, .int .i64, .int .i64]), (39, [.str, .int .i64, .int .i64, .str, .im 1]), (2, [.im 5, .int .i64, .int .i64]), (3, [.str, .int .i64, .int .i64, .str, .im 1])], resT⟩
def hint17 : Hint := ⟨45, 7, [2, 3], [], [(0, (some [0]), false), (1, (some [2, 3, 1]), false), (2, (some [2, 3, 5, 1]), false), (3, (some [2, 3, 5]), false), (4, (some [2, 3, 5, 1]), false), (5, (some [2, 3, 6, 5, 1]), false), (6, (some [2, 3, 6, 5, 1]), false), (7, (some [2, 3, 6, 5]), false), (8, (some [2, 3, 6, 5]), false)]⟩
def k17 : KFunc := ⟨45, [.cell 2 3 true, .cell 3 5 true, .slot 4], (.seq (.reg (some [0]) false [
  oO 1 (.box 3 (.s 0)),
  oO 2 (.alloc [(.d (.sl (.im true) 5 [])), (.d (.int .i64 0)), (.d (.int .i64 0))]),
  oO 3 (.alloc [(.d (.str [])), (.d (.int .i64 0)), (.d (.int .i64 0)), (.d (.str [])), (.d (.sl (.im true) 1 []))]),
  oO 4 (.mov (.c (.one (.d (.bool false)))))] none) (.seq (.reg (some [2, 3, 1]) false [
  oO 7 (.load 3 true (.s 1)),
  oO 8 (.call (.f 10) [(false, (.t 7))]),
  oO 5 (.alloc [(.d (.sl (.im true) 5 [])), (.d (.int .i64 0)), (.d (.int .i64 0))]),
  oN (.store false 3 (.s 5) (.t 8))] none) (.seq (.seq (.reg (some [2, 3, 5, 1]) false [
  oO 9 (.load 3 true (.s 1)),
  oO 10 (.call (.f 12) [(false, (.t 9))]),
  oO 11 (.un .not (.s 10)),
  oO 12 (.mov (.s 11)),
  oF 13 12 (.fieldA 2 (.s 1)),
  oF 14 12 (.load 1 false (.s 13)),
  oF 15 12 (.bin .other .lss (.s 14) (.c (.one (.d (.int .i64 1))))),
  oO 16 (.pick (.s 12) (.c (.one (.d (.bool true)))) (.s 15))] none) (.cond (.s 16) (.seq (.reg (some [2, 3, 5]) false [
  oO 17 (.load 3 true (.s 5)),
  oO 18 (.build [(.d (.str [])), (.d (.int .i64 0)), (.d (.int .i64 0)), (.d (.str [])), (.d (.sl (.im true) 1 []))] []),
  oN (.store true 3 (.s 2) (.t 17)),
  oN (.store true 5 (.s 3) (.t 18)),
  oO 4 (.mov (.c (.one (.d (.bool false)))))] none) .ret) .skip)) (.seq (.reg (some [2, 3, 5, 1]) false [
  oO 19 (.fieldA 0 (.s 5)),
  oO 20 (.load 1 false (.s 19)),
  oO 21 (.fieldA 1 (.s 1)),
  oO 22 (.load 1 false (.s 21)),
  oO 23 (.indexA 5 (.s 20) (.s 22)),
  oO 24 (.load 5 true (.s 23)),
  oO 6 (.alloc [(.d (.str [])), (.d (.int .i64 0)), (.d (.int .i64 0)), (.d (.str [])), (.d (.sl (.im true) 1 []))]),
  oN (.store false 5 (.s 6) (.t 24))] none) (.seq (.reg (some [2, 3, 6, 5, 1]) false [
  oO 25 (.fieldA 0 (.s 5)),
  oO 26 (.load 1 false (.s 25)),
  oO 27 (.fieldA 1 (.s 1)),
  oO 28 (.load 1 false (.s 27)),
  oO 29 (.build [(.d (.str [])), (.d (.int .i64 0)), (.d (.int .i64 0)), (.d (.str [])), (.d (.sl (.im true) 1 []))] []),
  oO 30 (.indexA 5 (.s 26) (.s 28)),
  oN (.store false 5 (.s 30) (.t 29))] none) (.seq (.reg (some [2, 3, 6, 5, 1]) false [
  oO 31 (.fieldA 1 (.s 1)),
  oO 32 (.load 1 false (.s 31)),
  oO 33 (.bin .other .add (.s 32) (.c (.one (.d (.int .i64 1))))),
  oO 34 (.fieldA 0 (.s 1)),
  oO 35 (.load 1 false (.s 34)),
  oO 36 (.len false (.s 35)),
  oO 37 (.bin .other .rem (.s 33) (.s 36)),
  oO 38 (.fieldA 1 (.s 5)),
  oN (.store false 1 (.s 38) (.s 37))] none) (.seq (.reg (some [2, 3, 6, 5]) false [
  oO 39 (.fieldA 2 (.s 5)),
  oO 40 (.load 1 false (.s 39)),
  oO 41 (.bin .other .sub (.s 40) (.c (.one (.d (.int .i64 1))))),
  oO 42 (.fieldA 2 (.s 5)),
  oN (.store false 1 (.s 42) (.s 41))] none) (.seq (.reg (some [2, 3, 6, 5]) false [
  oO 43 (.load 3 true (.s 5)),
  oO 44 (.load 5 true (.s 6)),
  oN (.store true 3 (.s 2) (.t 43)),
  oN (.store true 5 (.s 3) (.t 44)),
  oO 4 (.mov (.c (.one (.d (.bool true)))))] (some [(0, 1), (1, 2)])) .ret)))))))), true⟩
def an17 : Ann := ⟨lkN [(7, [.im 5, .int .i64, .int .i64]), (5, [.im 5, .int .i64, .int .i64]), (9, [.im 5, .int .i64, .int .i64]), (14, [.int .i64]), (17, [.im 5, .int .i64, .int .i64]), (2, [.im 5, .int .i64, .int .i64]), (3, [.str, .int .i64, .int .i64, .str, .im 1]), (20, [.im 5]), (22, [.int .i64]), (24, [.str, .int .i64, .int .i64, .str, .im 1]), (6, [.str, .int .i64, .int .i64, .str, .im 1]), (26, [.im 5]), (28, [.int .i64]), (30, [.str, .int .i64, .int .i64, .str, .im 1]), (32, [.int .i64]), (35, [.im 5]), (38, [.int .i64]), (40, [.int .i64]), (42, [.int .i64]), (43, [.im 5, .int .i64, .int .i64]), (44, [.str, .int .i64, .int .i64, .str, .im 1]), (2, [.im 5, .int .i64, .int .i64]), (3, [.str, .int .i64, .int .i64, .str, .im 1])], resT⟩
def hint18 : Hint := ⟨35, 7, [4], [], [(0, (some [1, 0]), false), (1, (some [4, 3, 2]), false), (2, (some [4, 6, 3, 2]), false), (3, (some [4, 6]), false), (4, (some [4, 6, 3, 2]), false), (5, (some [4, 6]), false), (6, (some [4, 6]), false)]⟩
def k18 : KFunc := ⟨35, [.cell 4 3 true, .slot 5], (.seq (.reg (some [1, 0]) false [
  oO 2 (.box 3 (.s 0)),
  oO 3 (.box 5 (.s 1)),
  oO 4 (.alloc [(.d (.sl (.im true) 5 [])), (.d (.int .i64 0)), (.d (.int .i64 0))]),
  oO 5 (.mov (.c (.one (.d (.bool false)))))] none) (.seq (.reg (some [4, 3, 2]) false [
  oO 7 (.load 3 true (.s 2)),
  oO 8 (.call (.f 27) [(false, (.t 7))]),
  oO 6 (.alloc [(.d (.sl (.im true) 5 [])), (.d (.int .i64 0)), (.d (.int .i64 0))]),
  oN (.store false 3 (.s 6) (.t 8))] none) (.seq (.seq (.reg (some [4, 6, 3, 2]) false [
  oO 9 (.load 3 true (.s 2)),
  oO 10 (.call (.f 11) [(false, (.t 9))]),
  oO 11 (.un .not (.s 10)),
  oO 12 (.mov (.s 11)),
  oF 13 12 (.fieldA 2 (.s 2)),
  oF 14 12 (.load 1 false (.s 13)),
  oF 15 12 (.fieldA 0 (.s 2)),
  oF 16 12 (.load 1 false (.s 15)),
  oF 17 12 (.len false (.s 16)),
  oF 18 12 (.bin .other .eql (.s 14) (.s 17)),
  oO 19 (.pick (.s 12) (.c (.one (.d (.bool true)))) (.s 18))] none) (.cond (.s 19) (.seq (.reg (some [4, 6]) false [
  oO 20 (.load 3 true (.s 6)),
  oN (.store true 3 (.s 4) (.t 20)),
  oO 5 (.mov (.c (.one (.d (.bool false)))))] none) .ret) .skip)) (.seq (.reg (some [4, 6, 3, 2]) false [
  oO 21 (.fieldA 0 (.s 6)),
  oO 22 (.load 1 false (.s 21)),
  oO 23 (.load 3 true (.s 2)),
  oO 24 (.fieldA 2 (.s 2)),
  oO 25 (.load 1 false (.s 24)),
  oO 26 (.call (.f 22) [(false, (.t 23)), (false, (.s 25))]),
  oO 27 (.load 5 true (.s 3)),
  oO 28 (.call (.f 26) [(false, (.t 27))]),
  oO 29 (.indexA 5 (.s 22) (.s 26)),
  oN (.store false 5 (.s 29) (.t 28))] (some [(0, 2), (1, 2), (0, 3), (1, 3), (2, 3), (0, 4), (1, 4), (2, 4), (0, 5), (1, 5), (0, 6), (1, 6), (2, 6), (3, 6), (4, 6), (5, 6), (0, 7), (1, 7)])) (.seq (.reg (some [4, 6]) false [
  oO 30 (.fieldA 2 (.s 6)),
  oO 31 (.load 1 false (.s 30)),
  oO 32 (.bin .other .add (.s 31) (.c (.one (.d (.int .i64 1))))),
  oO 33 (.fieldA 2 (.s 6)),
  oN (.store false 1 (.s 33) (.s 32))] none) (.seq (.reg (some [4, 6]) false [
  oO 34 (.load 3 true (.s 6)),
  oN (.store true 3 (.s 4) (.t 34)),
  oO 5 (.mov (.c (.one (.d (.bool true)))))] none) .ret)))))), true⟩
def an18 : Ann := ⟨lkN [(7, [.im 5, .int .i64, .int .i64]), (6, [.im 5, .int .i64, .int .i64]), (9, [.im 5, .int .i64, .int .i64]), (14, [.int .i64]), (16, [.im 5]), (20, [.im 5, .int .i64, .int .i64]), (4, [.im 5, .int .i64, .int .i64]), (22, [.im 5]), (23, [.im 5, .int .i64, .int .i64]), (25, [.int .i64]), (27, [.str, .int .i64, .int .i64, .str, .im 1]), (29, [.str, .int .i64, .int .i64, .str, .im 1]), (31, [.int .i64]), (33, [.int .i64]), (34, [.im 5, .int .i64, .int .i64]), (4, [.im 5, .int .i64, .int .i64])], resT⟩
def hint19 : Hint := ⟨43, 7, [4], [], [(0, (some [1, 0]), false), (1, (some [4, 3, 2]), false), (2, (some [4, 6, 3, 2]), false), (3, (some [4, 6]), false), (4, (some [4, 6, 3, 2]), false), (5, (some [4, 6]), false), (6, (some [4, 6]), false)]⟩
def k19 : KFunc := ⟨43, [.cell 4 3 true, .slot 5], (.seq (.reg (some [1, 0]) false [
  oO 2 (.box 3 (.s 0)),
  oO 3 (.box 5 (.s 1)),
  oO 4 (.alloc [(.d (.sl (.im true) 5 [])), (.d (.int .i64 0)), (.d (.int .i64 0))]),
  oO 5 (.mov (.c (.one (.d (.bool false)))))] none) (.seq (.reg (some [4, 3, 2]) false [
  oO 7 (.load 3 true (.s 2)),
  oO 8 (.call (.f 10) [(false, (.t 7))]),
  oO 6 (.alloc [(.d (.sl (.im true) 5 [])), (.d (.int .i64 0)), (.d (.int .i64 0))]),
  oN (.store false 3 (.s 6) (.t 8))] none) (.seq (.seq (.reg (some [4, 6, 3, 2]) false [
  oO 9 (.load 3 true (.s 2)),
  oO 10 (.call (.f 12) [(false, (.t 9))]),
  oO 11 (.un .not (.s 10)),
  oO 12 (.mov (.s 11)),
  oF 13 12 (.fieldA 2 (.s 2)),
  oF 14 12 (.load 1 false (.s 13)),
  oF 15 12 (.fieldA 0 (.s 2)),
  oF 16 12 (.load 1 false (.s 15)),
  oF 17 12 (.len false (.s 16)),
  oF 18 12 (.bin .other .geq (.s 14) (.s 17)),
  oO 19 (.pick (.s 12) (.c (.one (.d (.bool true)))) (.s 18))] none) (.cond (.s 19) (.seq (.reg (some [4, 6]) false [
  oO 20 (.load 3 true (.s 6)),
  oN (.store true 3 (.s 4) (.t 20)),
  oO 5 (.mov (.c (.one (.d (.bool false)))))] none) .ret) .skip)) (.seq (.reg (some [4, 6, 3, 2]) false [
  oO 21 (.fieldA 0 (.s 6)),
  oO 22 (.load 1 false (.s 21)),
  oO 23 (.fieldA 1 (.s 2)),
  oO 24 (.load 1 false (.s 23)),
  oO 25 (.fieldA 2 (.s 2)),
  oO 26 (.load 1 false (.s 25)),
  oO 27 (.bin .other .add (.s 24) (.s 26)),
  oO 28 (.fieldA 0 (.s 2)),
  oO 29 (.load 1 false (.s 28)),
  oO 30 (.len false (.s 29)),
  oO 31 (.bin .other .rem (.s 27) (.s 30)),
  oO 32 (.load 5 true (.s 3)),
  oO 33 (.bslice 5 [[(.str []), (.int .i64 0), (.int .i64 0), (.str []), (.sl (.im true) 1 [])]] [(0, (.t 32))]),
  oO 34 (.call (.f 21) [(false, (.t 33))]),
  oO 35 (.indexA 5 (.s 34) (.c (.one (.d (.int .i64 0))))),
  oO 36 (.load 5 true (.s 35)),
  oO 37 (.indexA 5 (.s 22) (.s 31)),
  oN (.store false 5 (.s 37) (.t 36))] (some [(0, 2), (1, 2), (0, 3), (1, 3), (0, 4), (1, 4), (2, 4), (3, 4), (0, 5), (1, 5), (2, 5), (3, 5), (0, 6), (1, 6), (0, 7), (1, 7), (2, 7), (3, 7), (4, 7), (5, 7), (6, 7), (0, 8), (1, 8), (2, 8), (3, 8), (4, 8), (5, 8), (6, 8), (0, 9), (1, 9), (2, 9), (3, 9), (4, 9), (5, 9), (6, 9), (0, 10), (1, 10), (0, 11), (1, 11), (2, 11), (3, 11), (4, 11), (5, 11), (6, 11), (7, 11), (8, 11), (9, 11), (10, 11), (0, 12), (1, 12), (2, 12), (3, 12), (4, 12), (5, 12), (6, 12), (7, 12), (8, 12), (9, 12), (10, 12), (0, 13), (1, 13), (2, 13), (3, 13), (4, 13), (5, 13), (6, 13), (7, 13), (8, 13), (9, 13), (10, 13), (0, 14), (1, 14), (2, 14), (3, 14), (4, 14), (5, 14), (6, 14), (7, 14), (8, 14), (9, 14), (10, 14), (0, 15), (1, 15), (2, 15), (3, 15), (4, 15), (5, 15), (6, 15), (7, 15), (8, 15), (9, 15), (10, 15)])) (.seq (.reg (some [4, 6]) false [
  oO 38 (.fieldA 2 (.s 6)),
  oO 39 (.load 1 false (.s 38)),
  oO 40 (.bin .other .add (.s 39) (.c (.one (.d (.int .i64 1))))),
  oO 41 (.fieldA 2 (.s 6)),
  oN (.store false 1 (.s 41) (.s 40))] none) (.seq (.reg (some [4, 6]) false [
  oO 42 (.load 3 true (.s 6)),
  oN (.store true 3 (.s 4) (.t 42)),
  oO 5 (.mov (.c (.one (.d (.bool true)))))] none) .ret)))))), true⟩
def an19 : Ann := ⟨lkN [(7, [.im 5, .int .i64, .int .i64]), (6, [.im 5, .int .i64, .int .i64]), (9, [.im 5, .int .i64, .int .i64]), (14, [.int .i64]), (16, [.im 5]), (20, [.im 5, .int .i64, .int .i64]), (4, [.im 5, .int .i64, .int .i64]), (22, [.im 5]), (24, [.int .i64]), (26, [.int .i64]), (29, [.im 5]), (32, [.str, .int .i64, .int .i64, .str, .im 1]), (36, [.str, .int .i64, .int .i64, .str, .im 1]), (37, [.str, .int .i64, .int .i64, .str, .im 1]), (39, [.int .i64]), (41, [.int .i64]), (42, [.im 5, .int .i64, .int .i64]), (4, [.im 5, .int .i64, .int .i64])], resT⟩
def hint20 : Hint := ⟨13, 5, [], [], [(0, (some [1, 0]), false), (1, (some [1, 0]), false), (2, (some []), false), (3, (some [1, 0]), false)]⟩
def k20 : KFunc := ⟨13, [.slot 4], (.seq (.reg (some [1, 0]) false [
  oO 4 (.mov (.c (.one (.d (.int .i64 0)))))] none) (.seq (.seq (.reg (some [1, 0]) false [
  oO 5 (.mov (.s 1)),
  oO 6 (.bin .other .lss (.s 5) (.c (.one (.d (.int .i64 1)))))] none) (.cond (.s 6) (.seq (.reg (some []) false [
  oO 4 (.mov (.c (.one (.d (.int .i64 0)))))] none) .ret) .skip)) (.seq (.reg (some [1, 0]) false [
  oO 7 (.mov (.s 0)),
  oO 8 (.conv (.int .u64) (.s 7)),
  oO 9 (.mov (.s 1)),
  oO 10 (.conv (.int .u64) (.s 9)),
  oO 11 (.bin .other .rem (.s 8) (.s 10)),
  oO 12 (.conv (.int .i64) (.s 11)),
  oO 4 (.mov (.s 12))] none) .ret))), true⟩
def an20 : Ann := ⟨lkN [], resT⟩
def hint21 : Hint := ⟨27, 5, [], [], [(0, (some [0]), false), (1, (some [0]), false), (2, (some [0, 3]), false), (3, (some [0, 4, 3]), true), (5, (some [0, 4, 3]), false), (4, (some [0, 3, 4]), false), (6, (some [3]), false)]⟩
def k21_c0 : KCode := (.seq (.reg (some [3]) false [
  oO 26 (.mov (.s 3)),
  oO 2 (.mov (.t 26))] none) .ret)
def k21_b0 : KCode := (.seq (.seq (.reg none false [
  oO 5 (.mov (.s 4)),
  oO 6 (.mov (.s 0)),
  oO 7 (.len false (.s 6)),
  oO 8 (.bin .other .lss (.s 5) (.s 7))] none) (.cond (.s 8) .skip (.exit 0))) (.seq (.block 1 (.reg (some [0, 4, 3]) false [
  oO 11 (.mov (.s 3)),
  oO 12 (.mov (.s 0)),
  oO 13 (.mov (.s 4)),
  oO 14 (.indexA 5 (.s 12) (.s 13)),
  oO 15 (.fieldA 0 (.s 14)),
  oO 16 (.load 1 false (.s 15)),
  oO 17 (.mov (.s 0)),
  oO 18 (.mov (.s 4)),
  oO 19 (.indexA 5 (.s 17) (.s 18)),
  oO 20 (.fieldA 1 (.s 19)),
  oO 21 (.load 4 true (.s 20)),
  oO 22 (.call (.f 28) [(false, (.t 21))]),
  oO 23 (.build [(.d (.str [])), (.d (.int .i64 0)), (.d (.int .i64 0)), (.d (.str [])), (.d (.sl (.im true) 1 []))] [(0, 1, (.s 16)), (1, 4, (.t 22))]),
  oO 24 (.bslice 5 [[(.str []), (.int .i64 0), (.int .i64 0), (.str []), (.sl (.im true) 1 [])]] [(0, (.t 23))]),
  oO 25 (.app 5 72 (.t 11) (.t 24)),
  oO 3 (.mov (.t 25))] (some [(0, 1), (0, 2), (1, 2), (0, 3), (0, 4), (0, 5), (0, 6), (1, 6), (2, 6), (3, 6), (4, 6), (5, 6), (0, 7), (1, 7), (2, 7), (3, 7), (4, 7), (5, 7), (6, 7), (0, 8), (1, 8), (2, 8), (3, 8), (4, 8), (5, 8), (0, 9), (1, 9), (2, 9), (3, 9), (4, 9), (5, 9), (0, 10), (1, 10), (2, 10), (3, 10), (4, 10), (5, 10), (0, 11), (1, 11), (2, 11), (3, 11), (4, 11), (5, 11), (0, 12), (0, 13)]))) (.reg (some [0, 3, 4]) false [
  oO 9 (.mov (.s 4)),
  oO 10 (.bin .other .add (.s 9) (.c (.one (.d (.int .i64 1))))),
  oO 4 (.mov (.s 10))] none)))
def k21 : KFunc := ⟨27, [.slot 2], (.seq (.reg (some [0]) false [
  oO 2 (.mov (.c (.one (.d (.sl (.im true) 5 [])))))] none) (.seq (.reg (some [0]) false [
  oO 3 (.mov (.c (.one (.d (.sl (.im true) 5 [])))))] none) (.seq (.seq (.reg (some [0, 3]) false [
  oO 4 (.mov (.c (.one (.d (.int .i64 0)))))] none) (.block 0 (.loop 0 (some [0, 4, 3]) true k21_b0))) k21_c0))), false⟩
def an21 : Ann := ⟨lkN [(16, [.str]), (21, [.int .i64, .int .i64, .str, .im 1])], resT⟩
def h21_0 (Cl : Oracle) (n : Nat) (bx : List (List C)) (m0 : Nat) (S : Go.Abs.St) : Option (V × List (List C)) := iterK 0 (evCA an21 Cl n k21_b0) (some [0, 4, 3]) true m0 S (blockK 0 (seqK (evCA an21 Cl n k21_c0) (retK [.slot 2] false bx)))
def hint22 : Hint := ⟨13, 5, [], [], [(0, (some [1, 0]), false), (1, (some [2, 1]), false)]⟩
def k22 : KFunc := ⟨13, [.slot 4], (.seq (.reg (some [1, 0]) false [
  oO 2 (.box 3 (.s 0)),
  oO 4 (.mov (.c (.one (.d (.int .i64 0)))))] none) (.seq (.reg (some [2, 1]) false [
  oO 5 (.fieldA 1 (.s 2)),
  oO 6 (.load 1 false (.s 5)),
  oO 7 (.mov (.s 1)),
  oO 8 (.bin .other .add (.s 6) (.s 7)),
  oO 9 (.fieldA 0 (.s 2)),
  oO 10 (.load 1 false (.s 9)),
  oO 11 (.len false (.s 10)),
  oO 12 (.bin .other .rem (.s 8) (.s 11)),
  oO 4 (.mov (.s 12))] none) .ret)), true⟩
def an22 : Ann := ⟨lkN [(6, [.int .i64]), (10, [.im 5])], resT⟩
def hint23 : Hint := ⟨51, 7, [], [], [(0, (some [1, 0]), false), (1, (some [3, 2]), false), (2, (some []), false), (3, (some [3, 2]), false), (4, (some [3, 36, 37, 38]), true), (5, (some [3, 36, 37, 38]), false), (6, (some [3, 36, 37, 38, 5, 6]), false), (7, (some []), false), (8, (some [3, 36, 37, 38]), false), (9, (some []), false)]⟩
def k23_c0 : KCode := (.seq (.reg (some []) false [
  oO 4 (.mov (.c (.one (.d (.bool true)))))] none) .ret)
def k23_b0 : KCode := (.seq (.reg none false [
  oO 39 (.bin .other .lss (.s 38) (.s 37))] none) (.seq (.cond (.s 39) .skip (.exit 0)) (.seq (.block 1 (.seq (.reg (some [3, 36, 37, 38]) false [
  oO 40 (.mov (.s 38)),
  oO 41 (.indexA 1 (.s 36) (.s 38)),
  oO 42 (.load 1 false (.s 41)),
  oO 5 (.mov (.s 40)),
  oO 6 (.mov (.s 42))] none) (.seq (.reg (some [3, 36, 37, 38, 5, 6]) false [
  oO 43 (.mov (.s 6)),
  oO 44 (.fieldA 3 (.s 3)),
  oO 45 (.load 1 false (.s 44)),
  oO 46 (.mov (.s 5)),
  oO 47 (.indexA 1 (.s 45) (.s 46)),
  oO 48 (.load 1 false (.s 47)),
  oO 49 (.bin .other .neq (.s 43) (.s 48))] none) (.cond (.s 49) (.seq (.reg (some []) false [
  oO 4 (.mov (.c (.one (.d (.bool false)))))] none) .ret) .skip)))) (.reg (some [3, 36, 37, 38]) false [
  oO 50 (.bin .other .add (.s 38) (.c (.one (.d (.int .i64 1))))),
  oO 38 (.mov (.s 50))] none))))
def k23 : KFunc := ⟨51, [.slot 4], (.seq (.reg (some [1, 0]) false [
  oO 2 (.box 4 (.s 0)),
  oO 3 (.box 4 (.s 1)),
  oO 4 (.mov (.c (.one (.d (.bool false)))))] none) (.seq (.seq (.reg (some [3, 2]) false [
  oO 7 (.fieldA 0 (.s 2)),
  oO 8 (.load 1 false (.s 7)),
  oO 9 (.fieldA 0 (.s 3)),
  oO 10 (.load 1 false (.s 9)),
  oO 11 (.bin .other .neq (.s 8) (.s 10)),
  oO 12 (.mov (.s 11)),
  oF 13 12 (.fieldA 1 (.s 2)),
  oF 14 12 (.load 1 false (.s 13)),
  oF 15 12 (.fieldA 1 (.s 3)),
  oF 16 12 (.load 1 false (.s 15)),
  oF 17 12 (.bin .other .neq (.s 14) (.s 16)),
  oO 18 (.pick (.s 12) (.c (.one (.d (.bool true)))) (.s 17)),
  oO 19 (.mov (.s 18)),
  oF 20 19 (.fieldA 2 (.s 2)),
  oF 21 19 (.load 1 false (.s 20)),
  oF 22 19 (.fieldA 2 (.s 3)),
  oF 23 19 (.load 1 false (.s 22)),
  oF 24 19 (.bin .other .neq (.s 21) (.s 23)),
  oO 25 (.pick (.s 19) (.c (.one (.d (.bool true)))) (.s 24)),
  oO 26 (.mov (.s 25)),
  oF 27 26 (.fieldA 3 (.s 2)),
  oF 28 26 (.load 1 false (.s 27)),
  oF 29 26 (.len false (.s 28)),
  oF 30 26 (.fieldA 3 (.s 3)),
  oF 31 26 (.load 1 false (.s 30)),
  oF 32 26 (.len false (.s 31)),
  oF 33 26 (.bin .other .neq (.s 29) (.s 32)),
  oO 34 (.pick (.s 26) (.c (.one (.d (.bool true)))) (.s 33))] none) (.cond (.s 34) (.seq (.reg (some []) false [
  oO 4 (.mov (.c (.one (.d (.bool false)))))] none) .ret) .skip)) (.seq (.seq (.reg (some [3, 2]) false [
  oO 35 (.fieldA 3 (.s 2)),
  oO 36 (.load 1 false (.s 35)),
  oO 37 (.len false (.s 36)),
  oO 38 (.mov (.c (.one (.d (.int .i64 0)))))] none) (.block 0 (.loop 0 (some [3, 36, 37, 38]) true k23_b0))) k23_c0))), true⟩
def an23 : Ann := ⟨lkN [(8, [.int .i64]), (10, [.int .i64]), (14, [.int .i64]), (16, [.int .i64]), (21, [.str]), (23, [.str]), (28, [.im 1]), (31, [.im 1]), (36, [.im 1]), (42, [.int .i64]), (45, [.im 1]), (48, [.int .i64])], resT⟩
def h23_0 (Cl : Oracle) (n : Nat) (bx : List (List C)) (m0 : Nat) (S : Go.Abs.St) : Option (V × List (List C)) := iterK 0 (evCA an23 Cl n k23_b0) (some [3, 36, 37, 38]) true m0 S (blockK 0 (seqK (evCA an23 Cl n k23_c0) (retK [.slot 4] true bx)))
def hint24 : Hint := ⟨12, 3, [], [], [(0, (some [0]), false), (1, (some [1]), false)]⟩
def k24 : KFunc := ⟨12, [.slot 2], (.seq (.reg (some [0]) false [
  oO 1 (.box 5 (.s 0)),
  oO 2 (.mov (.c (.one (.d (.bool false)))))] none) (.seq (.reg (some [1]) false [
  oO 3 (.fieldA 0 (.s 1)),
  oO 4 (.load 1 false (.s 3)),
  oO 5 (.bin .other .eql (.s 4) (.c (.one (.d (.str []))))),
  oO 6 (.mov (.s 5)),
  oT 7 6 (.fieldA 1 (.s 1)),
  oT 8 6 (.load 4 true (.s 7)),
  oT 9 6 (.build [(.d (.int .i64 0)), (.d (.int .i64 0)), (.d (.str [])), (.d (.sl (.im true) 1 []))] []),
  oT 10 6 (.call (.f 25) [(false, (.t 8)), (false, (.t 9))]),
  oO 11 (.pick (.s 6) (.s 10) (.c (.one (.d (.bool false))))),
  oO 2 (.mov (.s 11))] none) .ret)), true⟩
def an24 : Ann := ⟨lkN [(4, [.str]), (8, [.int .i64, .int .i64, .str, .im 1])], resT⟩
def hint25 : Hint := ⟨31, 5, [], [], [(0, (some [1, 0]), false), (1, (some [3, 2]), false)]⟩
def k25 : KFunc := ⟨31, [.slot 4], (.seq (.reg (some [1, 0]) false [
  oO 2 (.box 4 (.s 0)),
  oO 3 (.box 4 (.s 1)),
  oO 4 (.mov (.c (.one (.d (.bool false)))))] none) (.seq (.reg (some [3, 2]) false [
  oO 5 (.fieldA 0 (.s 2)),
  oO 6 (.load 1 false (.s 5)),
  oO 7 (.fieldA 0 (.s 3)),
  oO 8 (.load 1 false (.s 7)),
  oO 9 (.bin .other .eql (.s 6) (.s 8)),
  oO 10 (.mov (.s 9)),
  oT 11 10 (.fieldA 1 (.s 2)),
  oT 12 10 (.load 1 false (.s 11)),
  oT 13 10 (.fieldA 1 (.s 3)),
  oT 14 10 (.load 1 false (.s 13)),
  oT 15 10 (.bin .other .eql (.s 12) (.s 14)),
  oO 16 (.pick (.s 10) (.s 15) (.c (.one (.d (.bool false))))),
  oO 17 (.mov (.s 16)),
  oT 18 17 (.fieldA 2 (.s 2)),
  oT 19 17 (.load 1 false (.s 18)),
  oT 20 17 (.fieldA 2 (.s 3)),
  oT 21 17 (.load 1 false (.s 20)),
  oT 22 17 (.bin .other .eql (.s 19) (.s 21)),
  oO 23 (.pick (.s 17) (.s 22) (.c (.one (.d (.bool false))))),
  oO 24 (.mov (.s 23)),
  oT 25 24 (.fieldA 3 (.s 2)),
  oT 26 24 (.load 1 false (.s 25)),
  oT 27 24 (.fieldA 3 (.s 3)),
  oT 28 24 (.load 1 false (.s 27)),
  oT 29 24 (.call (.f 29) [(false, (.t 26)), (false, (.t 28))]),
  oO 30 (.pick (.s 24) (.s 29) (.c (.one (.d (.bool false))))),
  oO 4 (.mov (.s 30))] none) .ret)), true⟩
def an25 : Ann := ⟨lkN [(6, [.int .i64]), (8, [.int .i64]), (12, [.int .i64]), (14, [.int .i64]), (19, [.str]), (21, [.str]), (26, [.im 1]), (28, [.im 1])], resT⟩
def hint26 : Hint := ⟨10, 3, [2], [], [(0, (some [0]), false), (1, (some [2, 1]), false), (2, (some [2, 1]), false)]⟩
def k26 : KFunc := ⟨10, [.cell 2 5 true], (.seq (.reg (some [0]) false [
  oO 1 (.box 5 (.s 0)),
  oO 2 (.alloc [(.d (.str [])), (.d (.int .i64 0)), (.d (.int .i64 0)), (.d (.str [])), (.d (.sl (.im true) 1 []))])] none) (.seq (.reg (some [2, 1]) false [
  oO 3 (.fieldA 1 (.s 1)),
  oO 4 (.fieldA 3 (.s 3)),
  oO 5 (.load 1 false (.s 4)),
  oO 6 (.call (.f 30) [(false, (.t 5))]),
  oO 7 (.fieldA 1 (.s 1)),
  oO 8 (.fieldA 3 (.s 7)),
  oN (.store false 1 (.s 8) (.t 6))] none) (.seq (.reg (some [2, 1]) false [
  oO 9 (.load 5 true (.s 1)),
  oN (.store true 5 (.s 2) (.t 9))] none) .ret))), true⟩
def an26 : Ann := ⟨lkN [(5, [.im 1]), (8, [.im 1]), (9, [.str, .int .i64, .int .i64, .str, .im 1]), (2, [.str, .int .i64, .int .i64, .str, .im 1])], resT⟩
def hint27 : Hint := ⟨26, 4, [2], [], [(0, (some [0]), false), (1, (some [1, 2]), false), (2, (some [1, 2]), false), (3, (some [1, 2, 10, 11]), true), (4, (some [1, 2, 10, 11]), false), (5, (some [1, 2, 10, 11, 3]), false), (6, (some [1, 2, 10, 11]), false), (7, (some [2, 1]), false)]⟩
def k27_c0 : KCode := (.seq (.reg (some [2, 1]) false [
  oO 25 (.load 3 true (.s 1)),
  oN (.store true 3 (.s 2) (.t 25))] none) .ret)
def k27_b0 : KCode := (.seq (.reg none false [
  oO 12 (.bin .other .lss (.s 11) (.s 10))] none) (.seq (.cond (.s 12) .skip (.exit 0)) (.seq (.block 1 (.seq (.reg (some [1, 2, 10, 11]) false [
  oO 13 (.mov (.s 11)),
  oO 3 (.mov (.s 13))] none) (.reg (some [1, 2, 10, 11, 3]) false [
  oO 14 (.fieldA 0 (.s 1)),
  oO 15 (.load 1 false (.s 14)),
  oO 16 (.mov (.s 3)),
  oO 17 (.fieldA 0 (.s 1)),
  oO 18 (.load 1 false (.s 17)),
  oO 19 (.mov (.s 3)),
  oO 20 (.indexA 5 (.s 18) (.s 19)),
  oO 21 (.load 5 true (.s 20)),
  oO 22 (.call (.f 26) [(false, (.t 21))]),
  oO 23 (.indexA 5 (.s 15) (.s 16)),
  oN (.store false 5 (.s 23) (.t 22))] (some [(0, 2), (1, 2), (0, 3), (1, 3), (2, 3), (0, 4), (1, 4), (2, 4), (0, 5), (1, 5), (2, 5), (3, 5), (4, 5), (0, 6), (1, 6), (2, 6), (0, 7), (1, 7), (2, 7), (0, 8), (1, 8), (2, 8)])))) (.reg (some [1, 2, 10, 11]) false [
  oO 24 (.bin .other .add (.s 11) (.c (.one (.d (.int .i64 1))))),
  oO 11 (.mov (.s 24))] none))))
def k27 : KFunc := ⟨26, [.cell 2 3 true], (.seq (.reg (some [0]) false [
  oO 1 (.box 3 (.s 0)),
  oO 2 (.alloc [(.d (.sl (.im true) 5 [])), (.d (.int .i64 0)), (.d (.int .i64 0))])] none) (.seq (.reg (some [1, 2]) false [
  oO 4 (.fieldA 0 (.s 1)),
  oO 5 (.load 1 false (.s 4)),
  oO 6 (.call (.f 31) [(false, (.t 5))]),
  oO 7 (.fieldA 0 (.s 1)),
  oN (.store false 1 (.s 7) (.t 6))] none) (.seq (.seq (.reg (some [1, 2]) false [
  oO 8 (.fieldA 0 (.s 1)),
  oO 9 (.load 1 false (.s 8)),
  oO 10 (.len false (.s 9)),
  oO 11 (.mov (.c (.one (.d (.int .i64 0)))))] none) (.block 0 (.loop 0 (some [1, 2, 10, 11]) true k27_b0))) k27_c0))), false⟩
def an27 : Ann := ⟨lkN [(5, [.im 5]), (7, [.im 5]), (9, [.im 5]), (15, [.im 5]), (18, [.im 5]), (21, [.str, .int .i64, .int .i64, .str, .im 1]), (23, [.str, .int .i64, .int .i64, .str, .im 1]), (25, [.im 5, .int .i64, .int .i64]), (2, [.im 5, .int .i64, .int .i64])], resT⟩
def h27_0 (Cl : Oracle) (n : Nat) (bx : List (List C)) (m0 : Nat) (S : Go.Abs.St) : Option (V × List (List C)) := iterK 0 (evCA an27 Cl n k27_b0) (some [1, 2, 10, 11]) true m0 S (blockK 0 (seqK (evCA an27 Cl n k27_c0) (retK [.cell 2 3 true] false bx)))
def hint28 : Hint := ⟨8, 3, [2], [], [(0, (some [0]), false), (1, (some [2, 1]), false), (2, (some [2, 1]), false)]⟩
def k28 : KFunc := ⟨8, [.cell 2 4 true], (.seq (.reg (some [0]) false [
  oO 1 (.box 4 (.s 0)),
  oO 2 (.alloc [(.d (.int .i64 0)), (.d (.int .i64 0)), (.d (.str [])), (.d (.sl (.im true) 1 []))])] none) (.seq (.reg (some [2, 1]) false [
  oO 3 (.fieldA 3 (.s 1)),
  oO 4 (.load 1 false (.s 3)),
  oO 5 (.app 1 8 (.c (.one (.d (.sl (.im true) 1 [])))) (.t 4)),
  oO 6 (.fieldA 3 (.s 1)),
  oN (.store false 1 (.s 6) (.t 5))] none) (.seq (.reg (some [2, 1]) false [
  oO 7 (.load 4 true (.s 1)),
  oN (.store true 4 (.s 2) (.t 7))] none) .ret))), true⟩
def an28 : Ann := ⟨lkN [(4, [.im 1]), (6, [.im 1]), (7, [.int .i64, .int .i64, .str, .im 1]), (2, [.int .i64, .int .i64, .str, .im 1])], resT⟩
def hint29 : Hint := ⟨26, 6, [], [], [(0, (some [1, 0]), false), (1, (some [1, 0]), false), (2, (some []), false), (3, (some [1, 0]), false), (4, (some [1, 0, 5]), true), (6, (some [1, 0, 5]), false), (7, (some []), false), (5, (some [1, 0, 5]), false), (8, (some []), false)]⟩
def k29_c0 : KCode := (.seq (.reg (some []) false [
  oO 4 (.mov (.c (.one (.d (.bool true)))))] none) .ret)
def k29_b0 : KCode := (.seq (.seq (.reg none false [
  oO 11 (.mov (.s 5)),
  oO 12 (.mov (.s 0)),
  oO 13 (.len false (.s 12)),
  oO 14 (.bin .other .lss (.s 11) (.s 13))] none) (.cond (.s 14) .skip (.exit 0))) (.seq (.block 1 (.seq (.reg (some [1, 0, 5]) false [
  oO 17 (.mov (.s 0)),
  oO 18 (.mov (.s 5)),
  oO 19 (.indexA 1 (.s 17) (.s 18)),
  oO 20 (.load 1 false (.s 19)),
  oO 21 (.mov (.s 1)),
  oO 22 (.mov (.s 5)),
  oO 23 (.indexA 1 (.s 21) (.s 22)),
  oO 24 (.load 1 false (.s 23)),
  oO 25 (.bin .other .neq (.s 20) (.s 24))] (some [(0, 1), (0, 4), (1, 4), (2, 4), (3, 4), (0, 5), (1, 5), (2, 5), (3, 5), (4, 5), (0, 6), (1, 6), (2, 6), (3, 6), (0, 7), (1, 7), (2, 7), (3, 7)])) (.cond (.s 25) (.seq (.reg (some []) false [
  oO 4 (.mov (.c (.one (.d (.bool false)))))] none) .ret) .skip))) (.reg (some [1, 0, 5]) false [
  oO 15 (.mov (.s 5)),
  oO 16 (.bin .other .add (.s 15) (.c (.one (.d (.int .i64 1))))),
  oO 5 (.mov (.s 16))] none)))
def k29 : KFunc := ⟨26, [.slot 4], (.seq (.reg (some [1, 0]) false [
  oO 4 (.mov (.c (.one (.d (.bool false)))))] none) (.seq (.seq (.reg (some [1, 0]) false [
  oO 6 (.mov (.s 0)),
  oO 7 (.len false (.s 6)),
  oO 8 (.mov (.s 1)),
  oO 9 (.len false (.s 8)),
  oO 10 (.bin .other .neq (.s 7) (.s 9))] none) (.cond (.s 10) (.seq (.reg (some []) false [
  oO 4 (.mov (.c (.one (.d (.bool false)))))] none) .ret) .skip)) (.seq (.seq (.reg (some [1, 0]) false [
  oO 5 (.mov (.c (.one (.d (.int .i64 0)))))] none) (.block 0 (.loop 0 (some [1, 0, 5]) true k29_b0))) k29_c0))), true⟩
def an29 : Ann := ⟨lkN [(20, [.int .i64]), (24, [.int .i64])], resT⟩
def h29_0 (Cl : Oracle) (n : Nat) (bx : List (List C)) (m0 : Nat) (S : Go.Abs.St) : Option (V × List (List C)) := iterK 0 (evCA an29 Cl n k29_b0) (some [1, 0, 5]) true m0 S (blockK 0 (seqK (evCA an29 Cl n k29_c0) (retK [.slot 4] true bx)))
def hint30 : Hint := ⟨8, 3, [], [], [(0, (some [0]), false), (1, (some [0]), false), (2, (some []), false), (3, (some [0]), false)]⟩
def k30 : KFunc := ⟨8, [.slot 2], (.seq (.reg (some [0]) false [
  oO 2 (.mov (.c (.one (.d (.sl (.im true) 1 [])))))] none) (.seq (.seq (.reg (some [0]) false [
  oO 3 (.mov (.s 0)),
  oO 4 (.bin .slice .eql (.s 3) (.c (.one (.d (.sl (.im true) 1 [])))))] none) (.cond (.s 4) (.seq (.reg (some []) false [
  oO 2 (.mov (.c (.one (.d (.sl (.im true) 1 [])))))] none) .ret) .skip)) (.seq (.reg (some [0]) false [
  oO 5 (.bslice 1 [] []),
  oO 6 (.mov (.s 0)),
  oO 7 (.app 1 8 (.t 5) (.t 6)),
  oO 2 (.mov (.t 7))] none) .ret))), true⟩
def an30 : Ann := ⟨lkN [], resT⟩
def hint31 : Hint := ⟨8, 3, [], [], [(0, (some [0]), false), (1, (some [0]), false), (2, (some []), false), (3, (some [0]), false)]⟩
def k31 : KFunc := ⟨8, [.slot 2], (.seq (.reg (some [0]) false [
  oO 2 (.mov (.c (.one (.d (.sl (.im true) 5 [])))))] none) (.seq (.seq (.reg (some [0]) false [
  oO 3 (.mov (.s 0)),
  oO 4 (.bin .slice .eql (.s 3) (.c (.one (.d (.sl (.im true) 5 [])))))] none) (.cond (.s 4) (.seq (.reg (some []) false [
  oO 2 (.mov (.c (.one (.d (.sl (.im true) 5 [])))))] none) .ret) .skip)) (.seq (.reg (some [0]) false [
  oO 5 (.bslice 5 [] []),
  oO 6 (.mov (.s 0)),
  oO 7 (.app 5 72 (.t 5) (.t 6)),
  oO 2 (.mov (.t 7))] none) .ret))), false⟩
def an31 : Ann := ⟨lkN [], resT⟩
attribute [irreducible] h3_0 h4_0 h6_0 h11_0 h12_0 h13_0 h14_0 h15_0 h21_0 h23_0 h27_0 h29_0
theorem link3 : compF Try.prog nm hint3 Try.f3 true = some k3.fn := by kernel_rfl
theorem link4 : compF Try.prog nm hint4 Try.f4 true = some k4.fn := by kernel_rfl
theorem link5 : compF Try.prog nm hint5 Try.f5 true = some k5.fn := by kernel_rfl
theorem link6 : compF Try.prog nm hint6 Try.f6 true = some k6.fn := by kernel_rfl
theorem link7 : compF Try.prog nm hint7 Try.f7 true = some k7.fn := by kernel_rfl
theorem link8 : compF Try.prog nm hint8 Try.f8 true = some k8.fn := by kernel_rfl
theorem link9 : compF Try.prog nm hint9 Try.f9 true = some k9.fn := by kernel_rfl
theorem link10 : compF Try.prog nm hint10 Try.f10 false = some k10.fn := by kernel_rfl
theorem link11 : compF Try.prog nm hint11 Try.f11 true = some k11.fn := by kernel_rfl
theorem link12 : compF Try.prog nm hint12 Try.f12 true = some k12.fn := by kernel_rfl
theorem link13 : compF Try.prog nm hint13 Try.f13 true = some k13.fn := by kernel_rfl
theorem link14 : compF Try.prog nm hint14 Try.f14 true = some k14.fn := by kernel_rfl
theorem link15 : compF Try.prog nm hint15 Try.f15 true = some k15.fn := by kernel_rfl
theorem link16 : compF Try.prog nm hint16 Try.f16 true = some k16.fn := by kernel_rfl
theorem link17 : compF Try.prog nm hint17 Try.f17 true = some k17.fn := by kernel_rfl
theorem link18 : compF Try.prog nm hint18 Try.f18 true = some k18.fn := by kernel_rfl
theorem link19 : compF Try.prog nm hint19 Try.f19 true = some k19.fn := by kernel_rfl
theorem link20 : compF Try.prog nm hint20 Try.f20 true = some k20.fn := by kernel_rfl
theorem link21 : compF Try.prog nm hint21 Try.f21 false = some k21.fn := by kernel_rfl
theorem link22 : compF Try.prog nm hint22 Try.f22 true = some k22.fn := by kernel_rfl
theorem link23 : compF Try.prog nm hint23 Try.f23 true = some k23.fn := by kernel_rfl
theorem link24 : compF Try.prog nm hint24 Try.f24 true = some k24.fn := by kernel_rfl
theorem link25 : compF Try.prog nm hint25 Try.f25 true = some k25.fn := by kernel_rfl
theorem link26 : compF Try.prog nm hint26 Try.f26 true = some k26.fn := by kernel_rfl
theorem link27 : compF Try.prog nm hint27 Try.f27 false = some k27.fn := by kernel_rfl
theorem link28 : compF Try.prog nm hint28 Try.f28 true = some k28.fn := by kernel_rfl
theorem link29 : compF Try.prog nm hint29 Try.f29 true = some k29.fn := by kernel_rfl
theorem link30 : compF Try.prog nm hint30 Try.f30 true = some k30.fn := by kernel_rfl
theorem link31 : compF Try.prog nm hint31 Try.f31 false = some k31.fn := by kernel_rfl
def tab : Nat → Option IFunc
  | 3 => some k3.fn
  | 4 => some k4.fn
  | 5 => some k5.fn
  | 6 => some k6.fn
  | 7 => some k7.fn
  | 8 => some k8.fn
  | 9 => some k9.fn
  | 10 => some k10.fn
  | 11 => some k11.fn
  | 12 => some k12.fn
  | 13 => some k13.fn
  | 14 => some k14.fn
  | 15 => some k15.fn
  | 16 => some k16.fn
  | 17 => some k17.fn
  | 18 => some k18.fn
  | 19 => some k19.fn
  | 20 => some k20.fn
  | 21 => some k21.fn
  | 22 => some k22.fn
  | 23 => some k23.fn
  | 24 => some k24.fn
  | 25 => some k25.fn
  | 26 => some k26.fn
  | 27 => some k27.fn
  | 28 => some k28.fn
  | 29 => some k29.fn
  | 30 => some k30.fn
  | 31 => some k31.fn
  | _ => none
theorem tabOk : TabOk Try.prog nm tab := by
  refine ⟨by kernel_rfl, ?_⟩
  intro f fn fid h hn
  simp only [nm, Option.some.injEq] at hn
  subst hn
  unfold tab at h
  split at h
  · cases h; exact ⟨Try.f3, hint3, true, Try.func3, by kernel_rfl, link3⟩
  · cases h; exact ⟨Try.f4, hint4, true, Try.func4, by kernel_rfl, link4⟩
  · cases h; exact ⟨Try.f5, hint5, true, Try.func5, by kernel_rfl, link5⟩
  · cases h; exact ⟨Try.f6, hint6, true, Try.func6, by kernel_rfl, link6⟩
  · cases h; exact ⟨Try.f7, hint7, true, Try.func7, by kernel_rfl, link7⟩
  · cases h; exact ⟨Try.f8, hint8, true, Try.func8, by kernel_rfl, link8⟩
  · cases h; exact ⟨Try.f9, hint9, true, Try.func9, by kernel_rfl, link9⟩
  · cases h; exact ⟨Try.f10, hint10, false, Try.func10, by kernel_rfl, link10⟩
  · cases h; exact ⟨Try.f11, hint11, true, Try.func11, by kernel_rfl, link11⟩
  · cases h; exact ⟨Try.f12, hint12, true, Try.func12, by kernel_rfl, link12⟩
  · cases h; exact ⟨Try.f13, hint13, true, Try.func13, by kernel_rfl, link13⟩
  · cases h; exact ⟨Try.f14, hint14, true, Try.func14, by kernel_rfl, link14⟩
  · cases h; exact ⟨Try.f15, hint15, true, Try.func15, by kernel_rfl, link15⟩
  · cases h; exact ⟨Try.f16, hint16, true, Try.func16, by kernel_rfl, link16⟩
  · cases h; exact ⟨Try.f17, hint17, true, Try.func17, by kernel_rfl, link17⟩
  · cases h; exact ⟨Try.f18, hint18, true, Try.func18, by kernel_rfl, link18⟩
  · cases h; exact ⟨Try.f19, hint19, true, Try.func19, by kernel_rfl, link19⟩
  · cases h; exact ⟨Try.f20, hint20, true, Try.func20, by kernel_rfl, link20⟩
  · cases h; exact ⟨Try.f21, hint21, false, Try.func21, by kernel_rfl, link21⟩
  · cases h; exact ⟨Try.f22, hint22, true, Try.func22, by kernel_rfl, link22⟩
  · cases h; exact ⟨Try.f23, hint23, true, Try.func23, by kernel_rfl, link23⟩
  · cases h; exact ⟨Try.f24, hint24, true, Try.func24, by kernel_rfl, link24⟩
  · cases h; exact ⟨Try.f25, hint25, true, Try.func25, by kernel_rfl, link25⟩
  · cases h; exact ⟨Try.f26, hint26, true, Try.func26, by kernel_rfl, link26⟩
  · cases h; exact ⟨Try.f27, hint27, false, Try.func27, by kernel_rfl, link27⟩
  · cases h; exact ⟨Try.f28, hint28, true, Try.func28, by kernel_rfl, link28⟩
  · cases h; exact ⟨Try.f29, hint29, true, Try.func29, by kernel_rfl, link29⟩
  · cases h; exact ⟨Try.f30, hint30, true, Try.func30, by kernel_rfl, link30⟩
  · cases h; exact ⟨Try.f31, hint31, false, Try.func31, by kernel_rfl, link31⟩
  · cases h
end Go.Proofs.Ytjndnconlakjkaa
