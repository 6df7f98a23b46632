/- The functions that the law reaches as the evaluator takes them, and what they come to: printed by program. -/
import Derived.Test.YtoefhpgdmkckiaaDoorTree0
import Derived.Test.YtoefhpgdmkckiaaDoorTree1
/- The tower of trees, and that it is sound: printed by program. -/
set_option maxRecDepth 100000
set_option maxHeartbeats 40000000
set_option linter.unusedVariables false
namespace Go.Proofs.YtoefhpgdmkckiaaDoor
open Go Go.Abs
def st3 (Cl : Oracle) (n : Nat) (vs : List V) (bx : List (List C)) : OR := match vs, bx with
  | [(.one (.d (.int .i64 x0))), (.one (.d (.int .i64 x1)))], [] => t3 Cl n x0 x1
  | _, _ => none
def st4 (Cl : Oracle) (n : Nat) (vs : List V) (bx : List (List C)) : OR := match vs, bx with
  | [], [] => t4 Cl n 
  | _, _ => none
def st5 (Cl : Oracle) (n : Nat) (vs : List V) (bx : List (List C)) : OR := match vs, bx with
  | [(.one (.d (.int .i64 x0)))], [] => t5 Cl n x0
  | _, _ => none
def st6 (Cl : Oracle) (n : Nat) (vs : List V) (bx : List (List C)) : OR := match vs, bx with
  | [(.one (.d (.str x0)))], [] => t6 Cl n x0
  | _, _ => none
def st7 (Cl : Oracle) (n : Nat) (vs : List V) (bx : List (List C)) : OR := match vs, bx with
  | [(.one (.d (.str x0)))], [] => t7 Cl n x0
  | _, _ => none
def st8 (Cl : Oracle) (n : Nat) (vs : List V) (bx : List (List C)) : OR := match vs, bx with
  | [(.one (.ptr (.e 0) 0 0))], [[(.d (.sl (.im x0) 3 x1)), (.d (.int .i64 x2)), (.d (.int .i64 x3)), (.d (.int .i64 x4)), (.d (.str x5)), (.d (.sl x6 3 x7)), (.d (.sl x8 6 x9)), (.d (.sl x10 10 x11))]] => t8 Cl n x0 x1 x2 x3 x4 x5 x6 x7 x8 x9 x10 x11
  | _, _ => none
def st9 (Cl : Oracle) (n : Nat) (vs : List V) (bx : List (List C)) : OR := match vs, bx with
  | [(.one (.ptr (.e 0) 0 0)), (.one (.d (.str x0)))], [[(.d (.sl (.im x1) 3 x2)), (.d (.int .i64 x3)), (.d (.int .i64 x4)), (.d (.int .i64 x5)), (.d (.str x6)), (.d (.sl x7 3 x8)), (.d (.sl x9 6 x10)), (.d (.sl x11 10 x12))]] => t9 Cl n x0 x1 x2 x3 x4 x5 x6 x7 x8 x9 x10 x11 x12
  | _, _ => none
def st10 (Cl : Oracle) (n : Nat) (vs : List V) (bx : List (List C)) : OR := match vs, bx with
  | [(.one (.ptr (.e 0) 0 0))], [[(.d (.sl (.im x0) 3 x1)), (.d (.int .i64 x2)), (.d (.int .i64 x3)), (.d (.int .i64 x4)), (.d (.str x5)), (.d (.sl x6 3 x7)), (.d (.sl x8 6 x9)), (.d (.sl x10 10 x11))]] => t10 Cl n x0 x1 x2 x3 x4 x5 x6 x7 x8 x9 x10 x11
  | _, _ => none
def st12 (Cl : Oracle) (n : Nat) (vs : List V) (bx : List (List C)) : OR := match vs, bx with
  | [(.one (.ptr (.e 0) 0 0))], [[(.d (.sl (.im x0) 3 x1)), (.d (.int .i64 x2)), (.d (.int .i64 x3)), (.d (.int .i64 x4)), (.d (.str x5)), (.d (.sl x6 3 x7)), (.d (.sl x8 6 x9)), (.d (.sl x10 10 x11))]] => t12 Cl n x0 x1 x2 x3 x4 x5 x6 x7 x8 x9 x10 x11
  | _, _ => none
def st13 (Cl : Oracle) (n : Nat) (vs : List V) (bx : List (List C)) : OR := match vs, bx with
  | [(.one (.ptr (.e 0) 0 0))], [[(.d (.sl (.im x0) 3 x1)), (.d (.int .i64 x2)), (.d (.int .i64 x3)), (.d (.int .i64 x4)), (.d (.str x5)), (.d (.sl x6 3 x7)), (.d (.sl x8 6 x9)), (.d (.sl x10 10 x11))]] => t13 Cl n x0 x1 x2 x3 x4 x5 x6 x7 x8 x9 x10 x11
  | _, _ => none
def st14 (Cl : Oracle) (n : Nat) (vs : List V) (bx : List (List C)) : OR := match vs, bx with
  | [(.one (.ptr (.e 0) 0 0))], [[(.d (.sl (.im x0) 3 x1)), (.d (.int .i64 x2)), (.d (.int .i64 x3)), (.d (.int .i64 x4)), (.d (.str x5)), (.d (.sl x6 3 x7)), (.d (.sl x8 6 x9)), (.d (.sl x10 10 x11))]] => t14 Cl n x0 x1 x2 x3 x4 x5 x6 x7 x8 x9 x10 x11
  | _, _ => none
def st15 (Cl : Oracle) (n : Nat) (vs : List V) (bx : List (List C)) : OR := match vs, bx with
  | [(.one (.d (.int .u8 x0)))], [] => t15 Cl n x0
  | _, _ => none
def st19 (Cl : Oracle) (n : Nat) (vs : List V) (bx : List (List C)) : OR := match vs, bx with
  | [(.one (.d (.int .u8 x0)))], [] => t19 Cl n x0
  | _, _ => none
def st17 (Cl : Oracle) (n : Nat) (vs : List V) (bx : List (List C)) : OR := match vs, bx with
  | [(.one (.d (.str x0))), (.one (.d (.int .i64 x1))), (.one (.fn 20 [] []))], [] => t17x1 Cl n x0 x1
  | [(.one (.d (.str x0))), (.one (.d (.int .i64 x1))), (.one (.fn 15 [] []))], [] => t17x2 Cl n x0 x1
  | _, _ => none
def st21 (Cl : Oracle) (n : Nat) (vs : List V) (bx : List (List C)) : OR := match vs, bx with
  | [(.one (.d (.str x0)))], [] => t21 Cl n x0
  | _, _ => none
def st23 (Cl : Oracle) (n : Nat) (vs : List V) (bx : List (List C)) : OR := match vs, bx with
  | [(.one (.d (.str x0))), (.one (.d (.int .i64 x1)))], [] => t23 Cl n x0 x1
  | _, _ => none
def st24 (Cl : Oracle) (n : Nat) (vs : List V) (bx : List (List C)) : OR := match vs, bx with
  | [(.one (.ptr (.e 0) 0 0)), (.one (.d (.str x0)))], [[(.d (.sl (.im x1) 3 x2)), (.d (.int .i64 x3)), (.d (.int .i64 x4)), (.d (.int .i64 x5)), (.d (.str x6)), (.d (.sl x7 3 x8)), (.d (.sl x9 6 x10)), (.d (.sl x11 10 x12))]] => t24 Cl n x0 x1 x2 x3 x4 x5 x6 x7 x8 x9 x10 x11 x12
  | _, _ => none
def st25 (Cl : Oracle) (n : Nat) (vs : List V) (bx : List (List C)) : OR := match vs, bx with
  | [(.one (.ptr (.e 0) 0 0))], [[(.d (.sl (.im x0) 3 x1)), (.d (.int .i64 x2)), (.d (.int .i64 x3)), (.d (.int .i64 x4)), (.d (.str x5)), (.d (.sl x6 3 x7)), (.d (.sl x8 6 x9)), (.d (.sl x10 10 x11))]] => t25 Cl n x0 x1 x2 x3 x4 x5 x6 x7 x8 x9 x10 x11
  | _, _ => none
def st26 (Cl : Oracle) (n : Nat) (vs : List V) (bx : List (List C)) : OR := match vs, bx with
  | [(.one (.ptr (.e 0) 0 0)), (.one (.d (.str x0)))], [[(.d (.sl (.im x1) 3 x2)), (.d (.int .i64 x3)), (.d (.int .i64 x4)), (.d (.int .i64 x5)), (.d (.str x6)), (.d (.sl x7 3 x8)), (.d (.sl x9 6 x10)), (.d (.sl x11 10 x12))]] => t26 Cl n x0 x1 x2 x3 x4 x5 x6 x7 x8 x9 x10 x11 x12
  | _, _ => none
def st27 (Cl : Oracle) (n : Nat) (vs : List V) (bx : List (List C)) : OR := match vs, bx with
  | [(.one (.ptr (.e 0) 0 0)), (.one (.d (.int .i64 x0)))], [[(.d (.sl (.im x1) 3 x2)), (.d (.int .i64 x3)), (.d (.int .i64 x4)), (.d (.int .i64 x5)), (.d (.str x6)), (.d (.sl x7 3 x8)), (.d (.sl x9 6 x10)), (.d (.sl x11 10 x12))]] => t27 Cl n x0 x1 x2 x3 x4 x5 x6 x7 x8 x9 x10 x11 x12
  | _, _ => none
def st28 (Cl : Oracle) (n : Nat) (vs : List V) (bx : List (List C)) : OR := match vs, bx with
  | [(.one (.ptr (.e 0) 0 0))], [[(.d (.sl (.im x0) 3 x1)), (.d (.int .i64 x2)), (.d (.int .i64 x3)), (.d (.int .i64 x4)), (.d (.str x5)), (.d (.sl x6 3 x7)), (.d (.sl x8 6 x9)), (.d (.sl x10 10 x11))]] => t28 Cl n x0 x1 x2 x3 x4 x5 x6 x7 x8 x9 x10 x11
  | _, _ => none
def st29 (Cl : Oracle) (n : Nat) (vs : List V) (bx : List (List C)) : OR := match vs, bx with
  | [(.one (.ptr (.e 0) 0 0))], [[(.d (.sl (.im x0) 3 x1)), (.d (.int .i64 x2)), (.d (.int .i64 x3)), (.d (.int .i64 x4)), (.d (.str x5)), (.d (.sl x6 3 x7)), (.d (.sl x8 6 x9)), (.d (.sl x10 10 x11))]] => t29 Cl n x0 x1 x2 x3 x4 x5 x6 x7 x8 x9 x10 x11
  | _, _ => none
def st30 (Cl : Oracle) (n : Nat) (vs : List V) (bx : List (List C)) : OR := match vs, bx with
  | [(.one (.ptr (.e 0) 0 0))], [[(.d (.sl (.im x0) 3 x1)), (.d (.int .i64 x2)), (.d (.int .i64 x3)), (.d (.int .i64 x4)), (.d (.str x5)), (.d (.sl x6 3 x7)), (.d (.sl x8 6 x9)), (.d (.sl x10 10 x11))]] => t30 Cl n x0 x1 x2 x3 x4 x5 x6 x7 x8 x9 x10 x11
  | _, _ => none
def st20 (Cl : Oracle) (n : Nat) (vs : List V) (bx : List (List C)) : OR := match vs, bx with
  | [(.one (.d (.int .u8 x0)))], [] => t20 Cl n x0
  | _, _ => none
def st32 (Cl : Oracle) (n : Nat) (vs : List V) (bx : List (List C)) : OR := match vs, bx with
  | [(.one (.d (.str x0))), (.one (.d (.int .i64 10))), (.one (.d (.int .i64 64)))], [] => t32 Cl n x0
  | _, _ => none
def st31 (Cl : Oracle) (n : Nat) (vs : List V) (bx : List (List C)) : OR := match vs, bx with
  | [(.one (.d (.str x0)))], [] => t31 Cl n x0
  | _, _ => none
def st36 (Cl : Oracle) (n : Nat) (vs : List V) (bx : List (List C)) : OR := match vs, bx with
  | [(.one (.ptr (.e 0) 0 0))], [[(.d (.sl (.im x0) 3 x1)), (.d (.int .i64 x2)), (.d (.int .i64 x3)), (.d (.int .i64 x4)), (.d (.str x5)), (.d (.sl x6 3 x7)), (.d (.sl x8 6 x9)), (.d (.sl x10 10 x11))]] => t36 Cl n x0 x1 x2 x3 x4 x5 x6 x7 x8 x9 x10 x11
  | _, _ => none
def st37 (Cl : Oracle) (n : Nat) (vs : List V) (bx : List (List C)) : OR := match vs, bx with
  | [(.one (.d (.str x0)))], [] => t37 Cl n x0
  | _, _ => none
def st38 (Cl : Oracle) (n : Nat) (vs : List V) (bx : List (List C)) : OR := match vs, bx with
  | [(.one (.ptr (.e 0) 0 0))], [[(.d (.sl (.im x0) 3 x1)), (.d (.int .i64 x2)), (.d (.int .i64 x3)), (.d (.int .i64 x4)), (.d (.str x5)), (.d (.sl x6 3 x7)), (.d (.sl x8 6 x9)), (.d (.sl x10 10 x11))]] => t38 Cl n x0 x1 x2 x3 x4 x5 x6 x7 x8 x9 x10 x11
  | _, _ => none
def st39 (Cl : Oracle) (n : Nat) (vs : List V) (bx : List (List C)) : OR := match vs, bx with
  | [(.one (.d (.str x0))), (.one (.d (.int .i64 10))), (.one (.d (.int .i64 64)))], [] => t39 Cl n x0
  | _, _ => none
def st41 (Cl : Oracle) (n : Nat) (vs : List V) (bx : List (List C)) : OR := match vs, bx with
  | [(.one (.d (.str x0)))], [] => t41 Cl n x0
  | _, _ => none
def st42 (Cl : Oracle) (n : Nat) (vs : List V) (bx : List (List C)) : OR := match vs, bx with
  | [(.one (.d (.str x0)))], [] => t42 Cl n x0
  | _, _ => none
def st43 (Cl : Oracle) (n : Nat) (vs : List V) (bx : List (List C)) : OR := match vs, bx with
  | [(.one (.ptr (.e 0) 0 0)), (.one (.ptr (.e 1) 0 0))], [[(.d (.sl (.im x0) 3 x1)), (.d (.int .i64 x2)), (.d (.int .i64 x3)), (.d (.int .i64 x4)), (.d (.str x5)), (.d (.sl x6 3 x7)), (.d (.sl x8 6 x9)), (.d (.sl x10 10 x11))], [(.d (.int .i64 x12)), (.d (.str x13)), (.d (.str x14)), (.d (.str x15)), (.d (.str x16)), (.d (.int .i64 x17)), (.d (.sl x18 1 x19)), (.d (.sl x20 3 x21)), (.d (.sl x22 3 x23)), (.d (.int .i64 x24))]] => t43 Cl n x0 x1 x2 x3 x4 x5 x6 x7 x8 x9 x10 x11 x12 x13 x14 x15 x16 x17 x18 x19 x20 x21 x22 x23 x24
  | _, _ => none
def st44 (Cl : Oracle) (n : Nat) (vs : List V) (bx : List (List C)) : OR := match vs, bx with
  | [(.one (.ptr (.e 0) 0 0)), (.one (.ptr (.e 1) 0 0))], [[(.d (.sl (.im x0) 3 x1)), (.d (.int .i64 x2)), (.d (.int .i64 x3)), (.d (.int .i64 x4)), (.d (.str x5)), (.d (.sl x6 3 x7)), (.d (.sl x8 6 x9)), (.d (.sl x10 10 x11))], [(.d (.int .i64 x12)), (.d (.str x13)), (.d (.str x14)), (.d (.str x15)), (.d (.str x16)), (.d (.int .i64 x17)), (.d (.sl x18 1 x19)), (.d (.sl x20 3 x21)), (.d (.sl x22 3 x23)), (.d (.int .i64 x24))]] => t44 Cl n x0 x1 x2 x3 x4 x5 x6 x7 x8 x9 x10 x11 x12 x13 x14 x15 x16 x17 x18 x19 x20 x21 x22 x23 x24
  | _, _ => none
def st45 (Cl : Oracle) (n : Nat) (vs : List V) (bx : List (List C)) : OR := match vs, bx with
  | [(.one (.d (.str x0))), (.one (.d (.int .i64 10))), (.one (.d (.int .i64 64)))], [] => t45 Cl n x0
  | _, _ => none
def st50 (Cl : Oracle) (n : Nat) (vs : List V) (bx : List (List C)) : OR := match vs, bx with
  | [(.one (.d (.int .u8 x0)))], [] => t50 Cl n x0
  | _, _ => none
def step (Cl : Oracle) (n : Nat) (f : Nat) : List V → List (List C) → OR := match f with
  | 3 => st3 Cl n
  | 4 => st4 Cl n
  | 5 => st5 Cl n
  | 6 => st6 Cl n
  | 7 => st7 Cl n
  | 8 => st8 Cl n
  | 9 => st9 Cl n
  | 10 => st10 Cl n
  | 12 => st12 Cl n
  | 13 => st13 Cl n
  | 14 => st14 Cl n
  | 15 => st15 Cl n
  | 19 => st19 Cl n
  | 17 => st17 Cl n
  | 21 => st21 Cl n
  | 23 => st23 Cl n
  | 24 => st24 Cl n
  | 25 => st25 Cl n
  | 26 => st26 Cl n
  | 27 => st27 Cl n
  | 28 => st28 Cl n
  | 29 => st29 Cl n
  | 30 => st30 Cl n
  | 20 => st20 Cl n
  | 32 => st32 Cl n
  | 31 => st31 Cl n
  | 36 => st36 Cl n
  | 37 => st37 Cl n
  | 38 => st38 Cl n
  | 39 => st39 Cl n
  | 41 => st41 Cl n
  | 42 => st42 Cl n
  | 43 => st43 Cl n
  | 44 => st44 Cl n
  | 45 => st45 Cl n
  | 50 => st50 Cl n
  | _ => fun _ _ => none
def T (n : Nat) : Oracle := Nat.rec (fun _ _ _ => none) (fun m ih => step ih m) n
theorem l3_0_e0 (Cl : Oracle) (n : Nat)   (m : Nat) {a0 a1 a2 a3} : l3_0 Cl n  (m + 1) (.s0 a0 a1 a2 a3) = w3_0_0 Cl n  (l3_0 Cl n  m) a0 a1 a2 a3 := rfl
theorem l5_0_e0 (Cl : Oracle) (n : Nat)   (m : Nat) {a0 a1} : l5_0 Cl n  (m + 1) (.s0 a0 a1) = w5_0_0 Cl n  (l5_0 Cl n  m) a0 a1 := rfl
theorem l6_0_e0 (Cl : Oracle) (n : Nat)   (m : Nat) {a0 a1 a2 a3 a4 a5 a6 a7 a8 a9 a10 a11 a12 a13 a14 a15 a16 a17 a18 a19 a20 a21 a22 a23} : l6_0 Cl n  (m + 1) (.s0 a0 a1 a2 a3 a4 a5 a6 a7 a8 a9 a10 a11 a12 a13 a14 a15 a16 a17 a18 a19 a20 a21 a22 a23) = w6_0_0 Cl n  (l6_0 Cl n  m) a0 a1 a2 a3 a4 a5 a6 a7 a8 a9 a10 a11 a12 a13 a14 a15 a16 a17 a18 a19 a20 a21 a22 a23 := rfl
theorem l7_0_e0 (Cl : Oracle) (n : Nat)   (m : Nat) {a0 a1 a2 a3} : l7_0 Cl n  (m + 1) (.s0 a0 a1 a2 a3) = w7_0_0 Cl n  (l7_0 Cl n  m) a0 a1 a2 a3 := rfl
theorem l7_0_e1 (Cl : Oracle) (n : Nat)   (m : Nat) {a0 a1 a2} : l7_0 Cl n  (m + 1) (.s1 a0 a1 a2) = w7_0_1 Cl n  (l7_0 Cl n  m) a0 a1 a2 := rfl
theorem l10_0_e0 (Cl : Oracle) (n : Nat) (x0 : Bool) (x1 : RR) (x2 : Int) (x3 : Int) (x4 : Int) (x5 : BB) (x6 : Tag) (x7 : RR) (x8 : Tag) (x9 : RR) (x10 : Tag) (x11 : RR)  (m : Nat) {a0 a1 a2 a3 a4 a5 a6 a7 a8 a9 a10 a11 a12 a13 a14 a15 a16 a17 a18 a19 a20 a21} : l10_0 Cl n x0 x1 x2 x3 x4 x5 x6 x7 x8 x9 x10 x11 (m + 1) (.s0 a0 a1 a2 a3 a4 a5 a6 a7 a8 a9 a10 a11 a12 a13 a14 a15 a16 a17 a18 a19 a20 a21) = w10_0_0 Cl n x0 x1 x2 x3 x4 x5 x6 x7 x8 x9 x10 x11 (l10_0 Cl n x0 x1 x2 x3 x4 x5 x6 x7 x8 x9 x10 x11 m) a0 a1 a2 a3 a4 a5 a6 a7 a8 a9 a10 a11 a12 a13 a14 a15 a16 a17 a18 a19 a20 a21 := rfl
theorem l10_1_e0 (Cl : Oracle) (n : Nat) (x0 : Bool) (x1 : RR) (x2 : Int) (x3 : Int) (x4 : Int) (x5 : BB) (x6 : Tag) (x7 : RR) (x8 : Tag) (x9 : RR) (x10 : Tag) (x11 : RR)  (m : Nat) {a0 a1 a2 a3 a4 a5 a6 a7 a8 a9 a10 a11 a12 a13 a14 a15 a16 a17 a18 a19 a20 a21} : l10_1 Cl n x0 x1 x2 x3 x4 x5 x6 x7 x8 x9 x10 x11 (m + 1) (.s0 a0 a1 a2 a3 a4 a5 a6 a7 a8 a9 a10 a11 a12 a13 a14 a15 a16 a17 a18 a19 a20 a21) = w10_1_0 Cl n x0 x1 x2 x3 x4 x5 x6 x7 x8 x9 x10 x11 (l10_0 Cl n x0 x1 x2 x3 x4 x5 x6 x7 x8 x9 x10 x11  n) (l10_1 Cl n x0 x1 x2 x3 x4 x5 x6 x7 x8 x9 x10 x11 m) a0 a1 a2 a3 a4 a5 a6 a7 a8 a9 a10 a11 a12 a13 a14 a15 a16 a17 a18 a19 a20 a21 := rfl
theorem l12_0_e0 (Cl : Oracle) (n : Nat) (x0 : Bool) (x1 : RR) (x2 : Int) (x3 : Int) (x4 : Int) (x5 : BB) (x6 : Tag) (x7 : RR) (x8 : Tag) (x9 : RR) (x10 : Tag) (x11 : RR)  (m : Nat) {a0 a1 a2 a3 a4 a5 a6 a7 a8 a9 a10 a11 a12 a13 a14 a15 a16 a17 a18} : l12_0 Cl n x0 x1 x2 x3 x4 x5 x6 x7 x8 x9 x10 x11 (m + 1) (.s0 a0 a1 a2 a3 a4 a5 a6 a7 a8 a9 a10 a11 a12 a13 a14 a15 a16 a17 a18) = w12_0_0 Cl n x0 x1 x2 x3 x4 x5 x6 x7 x8 x9 x10 x11 (l12_0 Cl n x0 x1 x2 x3 x4 x5 x6 x7 x8 x9 x10 x11 m) a0 a1 a2 a3 a4 a5 a6 a7 a8 a9 a10 a11 a12 a13 a14 a15 a16 a17 a18 := rfl
theorem l17x1_0_e0 (Cl : Oracle) (n : Nat)   (m : Nat) {a0 a1} : l17x1_0 Cl n  (m + 1) (.s0 a0 a1) = w17x1_0_0 Cl n  (l17x1_0 Cl n  m) a0 a1 := rfl
theorem l17x2_0_e0 (Cl : Oracle) (n : Nat)   (m : Nat) {a0 a1} : l17x2_0 Cl n  (m + 1) (.s0 a0 a1) = w17x2_0_0 Cl n  (l17x2_0 Cl n  m) a0 a1 := rfl
theorem l28_0_e0 (Cl : Oracle) (n : Nat) (x0 : Bool) (x1 : RR) (x2 : Int) (x3 : Int) (x4 : Int) (x5 : BB) (x6 : Tag) (x7 : RR) (x8 : Tag) (x9 : RR) (x10 : Tag) (x11 : RR)  (m : Nat) {a0 a1 a2 a3 a4 a5 a6 a7 a8 a9 a10 a11 a12 a13} : l28_0 Cl n x0 x1 x2 x3 x4 x5 x6 x7 x8 x9 x10 x11 (m + 1) (.s0 a0 a1 a2 a3 a4 a5 a6 a7 a8 a9 a10 a11 a12 a13) = w28_0_0 Cl n x0 x1 x2 x3 x4 x5 x6 x7 x8 x9 x10 x11 (l28_0 Cl n x0 x1 x2 x3 x4 x5 x6 x7 x8 x9 x10 x11 m) a0 a1 a2 a3 a4 a5 a6 a7 a8 a9 a10 a11 a12 a13 := rfl
theorem l28_0_e1 (Cl : Oracle) (n : Nat) (x0 : Bool) (x1 : RR) (x2 : Int) (x3 : Int) (x4 : Int) (x5 : BB) (x6 : Tag) (x7 : RR) (x8 : Tag) (x9 : RR) (x10 : Tag) (x11 : RR)  (m : Nat) {a0 a1 a2 a3 a4 a5 a6 a7 a8 a9 a10 a11 a12} : l28_0 Cl n x0 x1 x2 x3 x4 x5 x6 x7 x8 x9 x10 x11 (m + 1) (.s1 a0 a1 a2 a3 a4 a5 a6 a7 a8 a9 a10 a11 a12) = w28_0_1 Cl n x0 x1 x2 x3 x4 x5 x6 x7 x8 x9 x10 x11 (l28_0 Cl n x0 x1 x2 x3 x4 x5 x6 x7 x8 x9 x10 x11 m) a0 a1 a2 a3 a4 a5 a6 a7 a8 a9 a10 a11 a12 := rfl
theorem l38_0_e0 (Cl : Oracle) (n : Nat) (x0 : Bool) (x1 : RR) (x2 : Int) (x3 : Int) (x4 : Int) (x5 : BB) (x6 : Tag) (x7 : RR) (x8 : Tag) (x9 : RR) (x10 : Tag) (x11 : RR)  (m : Nat) {a0 a1 a2 a3 a4 a5 a6 a7 a8 a9 a10 a11} : l38_0 Cl n x0 x1 x2 x3 x4 x5 x6 x7 x8 x9 x10 x11 (m + 1) (.s0 a0 a1 a2 a3 a4 a5 a6 a7 a8 a9 a10 a11) = w38_0_0 Cl n x0 x1 x2 x3 x4 x5 x6 x7 x8 x9 x10 x11 (l38_0 Cl n x0 x1 x2 x3 x4 x5 x6 x7 x8 x9 x10 x11 m) a0 a1 a2 a3 a4 a5 a6 a7 a8 a9 a10 a11 := rfl
theorem l41_0_e0 (Cl : Oracle) (n : Nat)   (m : Nat) {a0 a1} : l41_0 Cl n  (m + 1) (.s0 a0 a1) = w41_0_0 Cl n  (l41_0 Cl n  m) a0 a1 := rfl
theorem l42_0_e0 (Cl : Oracle) (n : Nat)   (m : Nat) {a0 a1 a2 a3 a4} : l42_0 Cl n  (m + 1) (.s0 a0 a1 a2 a3 a4) = w42_0_0 Cl n  (l42_0 Cl n  m) a0 a1 a2 a3 a4 := rfl
theorem l44_0_e0 (Cl : Oracle) (n : Nat) (x0 : Bool) (x1 : RR) (x2 : Int) (x3 : Int) (x4 : Int) (x5 : BB) (x6 : Tag) (x7 : RR) (x8 : Tag) (x9 : RR) (x10 : Tag) (x11 : RR) (x12 : Int) (x13 : BB) (x14 : BB) (x15 : BB) (x16 : BB) (x17 : Int) (x18 : Tag) (x19 : RR) (x20 : Tag) (x21 : RR) (x22 : Tag) (x23 : RR) (x24 : Int)  (m : Nat) {a0 a1 a2 a3 a4 a5 a6 a7 a8 a9 a10 a11 a12 a13 a14 a15 a16 a17 a18 a19 a20 a21 a22 a23 a24} : l44_0 Cl n x0 x1 x2 x3 x4 x5 x6 x7 x8 x9 x10 x11 x12 x13 x14 x15 x16 x17 x18 x19 x20 x21 x22 x23 x24 (m + 1) (.s0 a0 a1 a2 a3 a4 a5 a6 a7 a8 a9 a10 a11 a12 a13 a14 a15 a16 a17 a18 a19 a20 a21 a22 a23 a24) = w44_0_0 Cl n x0 x1 x2 x3 x4 x5 x6 x7 x8 x9 x10 x11 x12 x13 x14 x15 x16 x17 x18 x19 x20 x21 x22 x23 x24 (l44_0 Cl n x0 x1 x2 x3 x4 x5 x6 x7 x8 x9 x10 x11 x12 x13 x14 x15 x16 x17 x18 x19 x20 x21 x22 x23 x24 m) a0 a1 a2 a3 a4 a5 a6 a7 a8 a9 a10 a11 a12 a13 a14 a15 a16 a17 a18 a19 a20 a21 a22 a23 a24 := rfl
theorem l45_0_e0 (Cl : Oracle) (n : Nat)   (m : Nat) {a0 a1 a2 a3 a4 a5 a6 a7 a8 a9} : l45_0 Cl n  (m + 1) (.s0 a0 a1 a2 a3 a4 a5 a6 a7 a8 a9) = w45_0_0 Cl n  (l45_0 Cl n  m) a0 a1 a2 a3 a4 a5 a6 a7 a8 a9 := rfl
theorem l45_0_e1 (Cl : Oracle) (n : Nat)   (m : Nat) {a0 a1 a2 a3 a4 a5 a6 a7 a8 a9} : l45_0 Cl n  (m + 1) (.s1 a0 a1 a2 a3 a4 a5 a6 a7 a8 a9) = w45_0_1 Cl n  (l45_0 Cl n  m) a0 a1 a2 a3 a4 a5 a6 a7 a8 a9 := rfl
theorem l45_0_e2 (Cl : Oracle) (n : Nat)   (m : Nat) {a0 a1 a2 a3 a4 a5 a6 a7 a8 a9} : l45_0 Cl n  (m + 1) (.s2 a0 a1 a2 a3 a4 a5 a6 a7 a8 a9) = w45_0_2 Cl n  (l45_0 Cl n  m) a0 a1 a2 a3 a4 a5 a6 a7 a8 a9 := rfl
theorem l45_0_e3 (Cl : Oracle) (n : Nat)   (m : Nat) {a0 a1 a2 a3 a4 a5 a6 a7 a8 a9} : l45_0 Cl n  (m + 1) (.s3 a0 a1 a2 a3 a4 a5 a6 a7 a8 a9) = w45_0_3 Cl n  (l45_0 Cl n  m) a0 a1 a2 a3 a4 a5 a6 a7 a8 a9 := rfl
theorem l45_0_e4 (Cl : Oracle) (n : Nat)   (m : Nat) {a0 a1 a2 a3 a4 a5 a6 a7 a8 a9} : l45_0 Cl n  (m + 1) (.s4 a0 a1 a2 a3 a4 a5 a6 a7 a8 a9) = w45_0_4 Cl n  (l45_0 Cl n  m) a0 a1 a2 a3 a4 a5 a6 a7 a8 a9 := rfl
theorem st3_sound (Cl : Oracle) (n : Nat) (vs : List V) (bx : List (List C)) (r) (h : st3 Cl n vs bx = some r) : evBodyA an3 Cl n k3 vs bx = some r := by
  unfold st3 at h
  split at h
  · exact (pt3 ..).trans h
  · cases h
theorem st4_sound (Cl : Oracle) (n : Nat) (vs : List V) (bx : List (List C)) (r) (h : st4 Cl n vs bx = some r) : evBodyA an4 Cl n k4 vs bx = some r := by
  unfold st4 at h
  split at h
  · exact (pt4 ..).trans h
  · cases h
theorem st5_sound (Cl : Oracle) (n : Nat) (vs : List V) (bx : List (List C)) (r) (h : st5 Cl n vs bx = some r) : evBodyA an5 Cl n k5 vs bx = some r := by
  unfold st5 at h
  split at h
  · exact (pt5 ..).trans h
  · cases h
theorem st6_sound (Cl : Oracle) (n : Nat) (vs : List V) (bx : List (List C)) (r) (h : st6 Cl n vs bx = some r) : evBodyA an6 Cl n k6 vs bx = some r := by
  unfold st6 at h
  split at h
  · exact (pt6 ..).trans h
  · cases h
theorem st7_sound (Cl : Oracle) (n : Nat) (vs : List V) (bx : List (List C)) (r) (h : st7 Cl n vs bx = some r) : evBodyA an7 Cl n k7 vs bx = some r := by
  unfold st7 at h
  split at h
  · exact (pt7 ..).trans h
  · cases h
theorem st8_sound (Cl : Oracle) (n : Nat) (vs : List V) (bx : List (List C)) (r) (h : st8 Cl n vs bx = some r) : evBodyA an8 Cl n k8 vs bx = some r := by
  unfold st8 at h
  split at h
  · exact (pt8 ..).trans h
  · cases h
theorem st9_sound (Cl : Oracle) (n : Nat) (vs : List V) (bx : List (List C)) (r) (h : st9 Cl n vs bx = some r) : evBodyA an9 Cl n k9 vs bx = some r := by
  unfold st9 at h
  split at h
  · exact (pt9 ..).trans h
  · cases h
theorem st10_sound (Cl : Oracle) (n : Nat) (vs : List V) (bx : List (List C)) (r) (h : st10 Cl n vs bx = some r) : evBodyA an10 Cl n k10 vs bx = some r := by
  unfold st10 at h
  split at h
  · exact (pt10 ..).trans h
  · cases h
theorem st12_sound (Cl : Oracle) (n : Nat) (vs : List V) (bx : List (List C)) (r) (h : st12 Cl n vs bx = some r) : evBodyA an12 Cl n k12 vs bx = some r := by
  unfold st12 at h
  split at h
  · exact (pt12 ..).trans h
  · cases h
theorem st13_sound (Cl : Oracle) (n : Nat) (vs : List V) (bx : List (List C)) (r) (h : st13 Cl n vs bx = some r) : evBodyA an13 Cl n k13 vs bx = some r := by
  unfold st13 at h
  split at h
  · exact (pt13 ..).trans h
  · cases h
theorem st14_sound (Cl : Oracle) (n : Nat) (vs : List V) (bx : List (List C)) (r) (h : st14 Cl n vs bx = some r) : evBodyA an14 Cl n k14 vs bx = some r := by
  unfold st14 at h
  split at h
  · exact (pt14 ..).trans h
  · cases h
theorem st15_sound (Cl : Oracle) (n : Nat) (vs : List V) (bx : List (List C)) (r) (h : st15 Cl n vs bx = some r) : evBodyA an15 Cl n k15 vs bx = some r := by
  unfold st15 at h
  split at h
  · exact (pt15 ..).trans h
  · cases h
theorem st19_sound (Cl : Oracle) (n : Nat) (vs : List V) (bx : List (List C)) (r) (h : st19 Cl n vs bx = some r) : evBodyA an19 Cl n k19 vs bx = some r := by
  unfold st19 at h
  split at h
  · exact (pt19 ..).trans h
  · cases h
theorem st17_sound (Cl : Oracle) (n : Nat) (vs : List V) (bx : List (List C)) (r) (h : st17 Cl n vs bx = some r) : evBodyA an17 Cl n k17 vs bx = some r := by
  unfold st17 at h
  split at h
  · exact (pt17x1 ..).trans h
  · exact (pt17x2 ..).trans h
  · cases h
theorem st21_sound (Cl : Oracle) (n : Nat) (vs : List V) (bx : List (List C)) (r) (h : st21 Cl n vs bx = some r) : evBodyA an21 Cl n k21 vs bx = some r := by
  unfold st21 at h
  split at h
  · exact (pt21 ..).trans h
  · cases h
theorem st23_sound (Cl : Oracle) (n : Nat) (vs : List V) (bx : List (List C)) (r) (h : st23 Cl n vs bx = some r) : evBodyA an23 Cl n k23 vs bx = some r := by
  unfold st23 at h
  split at h
  · exact (pt23 ..).trans h
  · cases h
theorem st24_sound (Cl : Oracle) (n : Nat) (vs : List V) (bx : List (List C)) (r) (h : st24 Cl n vs bx = some r) : evBodyA an24 Cl n k24 vs bx = some r := by
  unfold st24 at h
  split at h
  · exact (pt24 ..).trans h
  · cases h
theorem st25_sound (Cl : Oracle) (n : Nat) (vs : List V) (bx : List (List C)) (r) (h : st25 Cl n vs bx = some r) : evBodyA an25 Cl n k25 vs bx = some r := by
  unfold st25 at h
  split at h
  · exact (pt25 ..).trans h
  · cases h
theorem st26_sound (Cl : Oracle) (n : Nat) (vs : List V) (bx : List (List C)) (r) (h : st26 Cl n vs bx = some r) : evBodyA an26 Cl n k26 vs bx = some r := by
  unfold st26 at h
  split at h
  · exact (pt26 ..).trans h
  · cases h
theorem st27_sound (Cl : Oracle) (n : Nat) (vs : List V) (bx : List (List C)) (r) (h : st27 Cl n vs bx = some r) : evBodyA an27 Cl n k27 vs bx = some r := by
  unfold st27 at h
  split at h
  · exact (pt27 ..).trans h
  · cases h
theorem st28_sound (Cl : Oracle) (n : Nat) (vs : List V) (bx : List (List C)) (r) (h : st28 Cl n vs bx = some r) : evBodyA an28 Cl n k28 vs bx = some r := by
  unfold st28 at h
  split at h
  · exact (pt28 ..).trans h
  · cases h
theorem st29_sound (Cl : Oracle) (n : Nat) (vs : List V) (bx : List (List C)) (r) (h : st29 Cl n vs bx = some r) : evBodyA an29 Cl n k29 vs bx = some r := by
  unfold st29 at h
  split at h
  · exact (pt29 ..).trans h
  · cases h
theorem st30_sound (Cl : Oracle) (n : Nat) (vs : List V) (bx : List (List C)) (r) (h : st30 Cl n vs bx = some r) : evBodyA an30 Cl n k30 vs bx = some r := by
  unfold st30 at h
  split at h
  · exact (pt30 ..).trans h
  · cases h
theorem st20_sound (Cl : Oracle) (n : Nat) (vs : List V) (bx : List (List C)) (r) (h : st20 Cl n vs bx = some r) : evBodyA an20 Cl n k20 vs bx = some r := by
  unfold st20 at h
  split at h
  · exact (pt20 ..).trans h
  · cases h
theorem st32_sound (Cl : Oracle) (n : Nat) (vs : List V) (bx : List (List C)) (r) (h : st32 Cl n vs bx = some r) : evBodyA an32 Cl n k32 vs bx = some r := by
  unfold st32 at h
  split at h
  · exact (pt32 ..).trans h
  · cases h
theorem st31_sound (Cl : Oracle) (n : Nat) (vs : List V) (bx : List (List C)) (r) (h : st31 Cl n vs bx = some r) : evBodyA an31 Cl n k31 vs bx = some r := by
  unfold st31 at h
  split at h
  · exact (pt31 ..).trans h
  · cases h
theorem st36_sound (Cl : Oracle) (n : Nat) (vs : List V) (bx : List (List C)) (r) (h : st36 Cl n vs bx = some r) : evBodyA an36 Cl n k36 vs bx = some r := by
  unfold st36 at h
  split at h
  · exact (pt36 ..).trans h
  · cases h
theorem st37_sound (Cl : Oracle) (n : Nat) (vs : List V) (bx : List (List C)) (r) (h : st37 Cl n vs bx = some r) : evBodyA an37 Cl n k37 vs bx = some r := by
  unfold st37 at h
  split at h
  · exact (pt37 ..).trans h
  · cases h
theorem st38_sound (Cl : Oracle) (n : Nat) (vs : List V) (bx : List (List C)) (r) (h : st38 Cl n vs bx = some r) : evBodyA an38 Cl n k38 vs bx = some r := by
  unfold st38 at h
  split at h
  · exact (pt38 ..).trans h
  · cases h
theorem st39_sound (Cl : Oracle) (n : Nat) (vs : List V) (bx : List (List C)) (r) (h : st39 Cl n vs bx = some r) : evBodyA an39 Cl n k39 vs bx = some r := by
  unfold st39 at h
  split at h
  · exact (pt39 ..).trans h
  · cases h
theorem st41_sound (Cl : Oracle) (n : Nat) (vs : List V) (bx : List (List C)) (r) (h : st41 Cl n vs bx = some r) : evBodyA an41 Cl n k41 vs bx = some r := by
  unfold st41 at h
  split at h
  · exact (pt41 ..).trans h
  · cases h
theorem st42_sound (Cl : Oracle) (n : Nat) (vs : List V) (bx : List (List C)) (r) (h : st42 Cl n vs bx = some r) : evBodyA an42 Cl n k42 vs bx = some r := by
  unfold st42 at h
  split at h
  · exact (pt42 ..).trans h
  · cases h
theorem st43_sound (Cl : Oracle) (n : Nat) (vs : List V) (bx : List (List C)) (r) (h : st43 Cl n vs bx = some r) : evBodyA an43 Cl n k43 vs bx = some r := by
  unfold st43 at h
  split at h
  · exact (pt43 ..).trans h
  · cases h
theorem st44_sound (Cl : Oracle) (n : Nat) (vs : List V) (bx : List (List C)) (r) (h : st44 Cl n vs bx = some r) : evBodyA an44 Cl n k44 vs bx = some r := by
  unfold st44 at h
  split at h
  · exact (pt44 ..).trans h
  · cases h
theorem st45_sound (Cl : Oracle) (n : Nat) (vs : List V) (bx : List (List C)) (r) (h : st45 Cl n vs bx = some r) : evBodyA an45 Cl n k45 vs bx = some r := by
  unfold st45 at h
  split at h
  · exact (pt45 ..).trans h
  · cases h
theorem st50_sound (Cl : Oracle) (n : Nat) (vs : List V) (bx : List (List C)) (r) (h : st50 Cl n vs bx = some r) : evBodyA an50 Cl n k50 vs bx = some r := by
  unfold st50 at h
  split at h
  · exact (pt50 ..).trans h
  · cases h
theorem step_sound (Cl : Oracle) (n f : Nat) (vs : List V) (bx : List (List C)) (r) (h : step Cl n f vs bx = some r) : ∃ fn, tab f = some fn ∧ evBody Cl n fn vs bx = some r := by
  unfold step at h
  split at h
  · exact ⟨k3.fn, rfl, evBodyA_inv (st3_sound _ _ _ _ _ h)⟩
  · exact ⟨k4.fn, rfl, evBodyA_inv (st4_sound _ _ _ _ _ h)⟩
  · exact ⟨k5.fn, rfl, evBodyA_inv (st5_sound _ _ _ _ _ h)⟩
  · exact ⟨k6.fn, rfl, evBodyA_inv (st6_sound _ _ _ _ _ h)⟩
  · exact ⟨k7.fn, rfl, evBodyA_inv (st7_sound _ _ _ _ _ h)⟩
  · exact ⟨k8.fn, rfl, evBodyA_inv (st8_sound _ _ _ _ _ h)⟩
  · exact ⟨k9.fn, rfl, evBodyA_inv (st9_sound _ _ _ _ _ h)⟩
  · exact ⟨k10.fn, rfl, evBodyA_inv (st10_sound _ _ _ _ _ h)⟩
  · exact ⟨k12.fn, rfl, evBodyA_inv (st12_sound _ _ _ _ _ h)⟩
  · exact ⟨k13.fn, rfl, evBodyA_inv (st13_sound _ _ _ _ _ h)⟩
  · exact ⟨k14.fn, rfl, evBodyA_inv (st14_sound _ _ _ _ _ h)⟩
  · exact ⟨k15.fn, rfl, evBodyA_inv (st15_sound _ _ _ _ _ h)⟩
  · exact ⟨k19.fn, rfl, evBodyA_inv (st19_sound _ _ _ _ _ h)⟩
  · exact ⟨k17.fn, rfl, evBodyA_inv (st17_sound _ _ _ _ _ h)⟩
  · exact ⟨k21.fn, rfl, evBodyA_inv (st21_sound _ _ _ _ _ h)⟩
  · exact ⟨k23.fn, rfl, evBodyA_inv (st23_sound _ _ _ _ _ h)⟩
  · exact ⟨k24.fn, rfl, evBodyA_inv (st24_sound _ _ _ _ _ h)⟩
  · exact ⟨k25.fn, rfl, evBodyA_inv (st25_sound _ _ _ _ _ h)⟩
  · exact ⟨k26.fn, rfl, evBodyA_inv (st26_sound _ _ _ _ _ h)⟩
  · exact ⟨k27.fn, rfl, evBodyA_inv (st27_sound _ _ _ _ _ h)⟩
  · exact ⟨k28.fn, rfl, evBodyA_inv (st28_sound _ _ _ _ _ h)⟩
  · exact ⟨k29.fn, rfl, evBodyA_inv (st29_sound _ _ _ _ _ h)⟩
  · exact ⟨k30.fn, rfl, evBodyA_inv (st30_sound _ _ _ _ _ h)⟩
  · exact ⟨k20.fn, rfl, evBodyA_inv (st20_sound _ _ _ _ _ h)⟩
  · exact ⟨k32.fn, rfl, evBodyA_inv (st32_sound _ _ _ _ _ h)⟩
  · exact ⟨k31.fn, rfl, evBodyA_inv (st31_sound _ _ _ _ _ h)⟩
  · exact ⟨k36.fn, rfl, evBodyA_inv (st36_sound _ _ _ _ _ h)⟩
  · exact ⟨k37.fn, rfl, evBodyA_inv (st37_sound _ _ _ _ _ h)⟩
  · exact ⟨k38.fn, rfl, evBodyA_inv (st38_sound _ _ _ _ _ h)⟩
  · exact ⟨k39.fn, rfl, evBodyA_inv (st39_sound _ _ _ _ _ h)⟩
  · exact ⟨k41.fn, rfl, evBodyA_inv (st41_sound _ _ _ _ _ h)⟩
  · exact ⟨k42.fn, rfl, evBodyA_inv (st42_sound _ _ _ _ _ h)⟩
  · exact ⟨k43.fn, rfl, evBodyA_inv (st43_sound _ _ _ _ _ h)⟩
  · exact ⟨k44.fn, rfl, evBodyA_inv (st44_sound _ _ _ _ _ h)⟩
  · exact ⟨k45.fn, rfl, evBodyA_inv (st45_sound _ _ _ _ _ h)⟩
  · exact ⟨k50.fn, rfl, evBodyA_inv (st50_sound _ _ _ _ _ h)⟩
  · cases h
theorem T_sound (prim : Oracle) : ∀ (n : Nat), OLe (T n) (evN tab prim n)
  | 0 => fun f vs bx r h => by cases h
  | n + 1 => fun f vs bx r h => by
    obtain ⟨fn, h1, h2⟩ := step_sound (T n) n f vs bx r h
    have h3 := evBody_mono (T_sound prim n) n fn vs bx r h2
    simp only [evN, h1]
    exact h3
theorem T_succ (m : Nat) : T (m + 1) = step (T m) m := rfl
attribute [irreducible] T
end Go.Proofs.YtoefhpgdmkckiaaDoor
