/- The functions that the law reaches as the evaluator takes them, and what they come to: printed by program. -/
import Derived.Test.YteaaelhndaijoaaDoorT
set_option maxRecDepth 100000
set_option maxHeartbeats 40000000
set_option linter.unusedVariables false
namespace Go.Proofs.YteaaelhndaijoaaDoor
open Go Go.Abs
theorem lq8__0_e0 (Cl : Oracle) (n : Nat) (m : Nat) {a0 a1 a2 a3} : lq8__0 Cl n (m + 1) (.s0 a0 a1 a2 a3) = wq8__0_0 Cl n a0 a1 a2 a3 := rfl
theorem lq8__1_e0 (Cl : Oracle) (n : Nat) (m : Nat) {a0 a1 a2} : lq8__1 Cl n (m + 1) (.s0 a0 a1 a2) = wq8__1_0 Cl n (lq8__0 Cl n n) a0 a1 a2 := rfl
theorem lql__0_e0 (Cl : Oracle) (n : Nat) (m : Nat) {a0 a1} : lql__0 Cl n (m + 1) (.s0 a0 a1) = wql__0_0 Cl n a0 a1 := rfl
theorem lqi__0_e0 (Cl : Oracle) (n : Nat) (m : Nat) {a0 a1 a2} : lqi__0 Cl n (m + 1) (.s0 a0 a1 a2) = wqi__0_0 Cl n (lqi__0 Cl n m) a0 a1 a2 := rfl
theorem lq7__0_e0 (Cl : Oracle) (n : Nat) (x2 : RowT [.tg 6]) (x3 : RowT [.tg 1]) (x4 : RowT sh4) (m : Nat) {a0 a1 a2 a3 a4 a5 a6 a7 a8} : lq7__0 Cl n x2 x3 x4 (m + 1) (.s0 a0 a1 a2 a3 a4 a5 a6 a7 a8) = wq7__0_0 Cl n x2 x3 x4 (lq7__0 Cl n x2 x3 x4 m) a0 a1 a2 a3 a4 a5 a6 a7 a8 := rfl
theorem lq7__1_e0 (Cl : Oracle) (n : Nat) (x2 : RowT [.tg 6]) (x3 : RowT [.tg 1]) (x4 : RowT sh4) (m : Nat) {a0 a1 a2 a3 a4 a5 a6} : lq7__1 Cl n x2 x3 x4 (m + 1) (.s0 a0 a1 a2 a3 a4 a5 a6) = wq7__1_0 Cl n x2 x3 x4 (lq7__0 Cl n x2 x3 x4 n) a0 a1 a2 a3 a4 a5 a6 := rfl
theorem lqh__e0 (Cl : Oracle) (n : Nat) (H0 : Sq5__0 → OR) (m : Nat) {a0 a1 a2 a3 a4 a5} : lqh_ Cl n H0 (m + 1) (.s0 a0 a1 a2 a3 a4 a5) = wqh__0 Cl n H0 a0 a1 a2 a3 a4 a5 := rfl
theorem lqh__e1 (Cl : Oracle) (n : Nat) (H0 : Sq5__0 → OR) (m : Nat) {a0 a1 a2 a3 a4} : lqh_ Cl n H0 (m + 1) (.s1 a0 a1 a2 a3 a4) = wqh__1 Cl n H0 a0 a1 a2 a3 a4 := rfl
theorem lqd__e0 (Cl : Oracle) (n : Nat) (H0 : Sq5__0 → OR) (m : Nat) {a0 a1 a2 a3 a4 a5 a6} : lqd_ Cl n H0 (m + 1) (.s0 a0 a1 a2 a3 a4 a5 a6) = wqd__0 Cl n H0 (lqh_ Cl n H0 n) a0 a1 a2 a3 a4 a5 a6 := rfl
theorem lqd__e1 (Cl : Oracle) (n : Nat) (H0 : Sq5__0 → OR) (m : Nat) {a0 a1 a2 a3 a4 a5} : lqd_ Cl n H0 (m + 1) (.s1 a0 a1 a2 a3 a4 a5) = wqd__1 Cl n H0 (lqh_ Cl n H0 n) a0 a1 a2 a3 a4 a5 := rfl
theorem lq5__0_e0 (Cl : Oracle) (n : Nat) (m : Nat) {a0 a1 a2 a3} : lq5__0 Cl n (m + 1) (.s0 a0 a1 a2 a3) = wq5__0_0 Cl n (lqd_ Cl n (lq5__0 Cl n m) n) a0 a1 a2 a3 := rfl
theorem lq5__0_e1 (Cl : Oracle) (n : Nat) (m : Nat) {a0 a1 a2} : lq5__0 Cl n (m + 1) (.s1 a0 a1 a2) = wq5__0_1 Cl n (lqd_ Cl n (lq5__0 Cl n m) n) a0 a1 a2 := rfl
theorem lq0__3_e0 (Cl : Oracle) (n : Nat) (x0 : RowT sh7) (m : Nat) {a0 a1} : lq0__3 Cl n x0 (m + 1) (.s0 a0 a1) = wq0__3_0 Cl n x0 a0 a1 := rfl
theorem lq0__0_e0 (Cl : Oracle) (n : Nat) (x0 : RowT sh7) (m : Nat) {a0 a1} : lq0__0 Cl n x0 (m + 1) (.s0 a0 a1) = wq0__0_0 Cl n x0 (lq0__2 Cl n x0 (lq0__0 Cl n x0 m) n) (lq0__3 Cl n x0 n) a0 a1 := rfl
theorem l_lex_runx1_0_e0 (Cl : Oracle) (n : Nat) (m : Nat) {a0 a1} : l_lex_runx1_0 Cl n (m + 1) (.s0 a0 a1) = w_lex_runx1_0_0 Cl n (l_lex_runx1_0 Cl n m) a0 a1 := rfl
theorem l_lex_runx2_0_e0 (Cl : Oracle) (n : Nat) (m : Nat) {a0 a1} : l_lex_runx2_0 Cl n (m + 1) (.s0 a0 a1) = w_lex_runx2_0_0 Cl n (l_lex_runx2_0 Cl n m) a0 a1 := rfl
theorem lqb__0_e0 (Cl : Oracle) (n : Nat) (m : Nat) {a0} : lqb__0 Cl n (m + 1) (.s0 a0) = wqb__0_0 Cl n a0 := rfl
theorem lqb__1_e0 (Cl : Oracle) (n : Nat) (m : Nat) {a0 a1} : lqb__1 Cl n (m + 1) (.s0 a0 a1) = wqb__1_0 Cl n (lqb__0 Cl n n) a0 a1 := rfl
theorem lq1__2_e0 (Cl : Oracle) (n : Nat) (H0 : Sq1__0 → OR) (m : Nat) {a0 a1 a2} : lq1__2 Cl n H0 (m + 1) (.s0 a0 a1 a2) = wq1__2_0 Cl n H0 a0 a1 a2 := rfl
theorem lqf__e0 (Cl : Oracle) (n : Nat) (H0 : Sq1__0 → OR) (m : Nat) {a0 a1 a2 a3} : lqf_ Cl n H0 (m + 1) (.s0 a0 a1 a2 a3) = wqf__0 Cl n (lq1__2 Cl n H0 n) a0 a1 a2 a3 := rfl
theorem lqf__e1 (Cl : Oracle) (n : Nat) (H0 : Sq1__0 → OR) (m : Nat) {a0 a1 a2} : lqf_ Cl n H0 (m + 1) (.s1 a0 a1 a2) = wqf__1 Cl n (lq1__2 Cl n H0 n) a0 a1 a2 := rfl
theorem lq1__0_e0 (Cl : Oracle) (n : Nat) (m : Nat) {a0 a1 a2 a3} : lq1__0 Cl n (m + 1) (.s0 a0 a1 a2 a3) = wq1__0_0 Cl n (lqf_ Cl n (lq1__0 Cl n m) n) (lq1__2 Cl n (lq1__0 Cl n m) n) a0 a1 a2 a3 := rfl
theorem lq1__0_e1 (Cl : Oracle) (n : Nat) (m : Nat) {a0 a1 a2} : lq1__0 Cl n (m + 1) (.s1 a0 a1 a2) = wq1__0_1 Cl n (lqf_ Cl n (lq1__0 Cl n m) n) (lq1__2 Cl n (lq1__0 Cl n m) n) a0 a1 a2 := rfl
theorem lqe__1_e0 (Cl : Oracle) (n : Nat) (m : Nat) {a0 a1} : lqe__1 Cl n (m + 1) (.s0 a0 a1) = wqe__1_0 Cl n (lqe__0 Cl n n) a0 a1 := rfl
theorem lq9__0_e0 (Cl : Oracle) (n : Nat) (m : Nat) {a0 a1} : lq9__0 Cl n (m + 1) (.s0 a0 a1) = wq9__0_0 Cl n (lq9__0 Cl n m) a0 a1 := rfl
theorem lq9__1_e0 (Cl : Oracle) (n : Nat) (m : Nat) {a0} : lq9__1 Cl n (m + 1) (.s0 a0) = wq9__1_0 Cl n (lq9__0 Cl n n) a0 := rfl
theorem lq6__1_e0 (Cl : Oracle) (n : Nat) (H0 : Sq6__0 → OR) (m : Nat) {a0 a1 a2} : lq6__1 Cl n H0 (m + 1) (.s0 a0 a1 a2) = wq6__1_0 Cl n H0 a0 a1 a2 := rfl
theorem lq6__0_e0 (Cl : Oracle) (n : Nat) (m : Nat) {a0 a1 a2} : lq6__0 Cl n (m + 1) (.s0 a0 a1 a2) = wq6__0_0 Cl n (lq6__1 Cl n (lq6__0 Cl n m) n) a0 a1 a2 := rfl
theorem lqm__0_e0 (Cl : Oracle) (n : Nat) (m : Nat) : lqm__0 Cl n (m + 1) (.s0 ) = wqm__0_0 Cl n := rfl
theorem lq4__1_e0 (Cl : Oracle) (n : Nat) (x0 : RowT sh7) (H0 : Sq4__0 → OR) (m : Nat) {a0 a1 a2} : lq4__1 Cl n x0 H0 (m + 1) (.s0 a0 a1 a2) = wq4__1_0 Cl n x0 H0 a0 a1 a2 := rfl
theorem lq4__0_e0 (Cl : Oracle) (n : Nat) (x0 : RowT sh7) (m : Nat) {a0} : lq4__0 Cl n x0 (m + 1) (.s0 a0) = wq4__0_0 Cl n x0 (lq4__1 Cl n x0 (lq4__0 Cl n x0 m) n) a0 := rfl
theorem lqc__1_e0 (Cl : Oracle) (n : Nat) (x0 : RowT sh7) (x1 : RowT sh15) (m : Nat) {a0 a1} : lqc__1 Cl n x0 x1 (m + 1) (.s0 a0 a1) = wqc__1_0 Cl n x0 x1 a0 a1 := rfl
theorem lq2__2_e0 (Cl : Oracle) (n : Nat) (x4 : RowT sh7) (H0 : Sq2__0 → OR) (m : Nat) {a0 a1 a2 a3 a4 a5 a6} : lq2__2 Cl n x4 H0 (m + 1) (.s0 a0 a1 a2 a3 a4 a5 a6) = wq2__2_0 Cl n x4 H0 a0 a1 a2 a3 a4 a5 a6 := rfl
theorem lq2__1_e0 (Cl : Oracle) (n : Nat) (x4 : RowT sh7) (H0 : Sq2__0 → OR) (m : Nat) {a0 a1 a2 a3 a4 a5 a6 a7 a8 a9 a10} : lq2__1 Cl n x4 H0 (m + 1) (.s0 a0 a1 a2 a3 a4 a5 a6 a7 a8 a9 a10) = wq2__1_0 Cl n x4 (lq2__1 Cl n x4 H0 m) (lq2__2 Cl n x4 H0 n) a0 a1 a2 a3 a4 a5 a6 a7 a8 a9 a10 := rfl
theorem lq2__0_e0 (Cl : Oracle) (n : Nat) (x4 : RowT sh7) (m : Nat) {a0 a1 a2 a3 a4 a5} : lq2__0 Cl n x4 (m + 1) (.s0 a0 a1 a2 a3 a4 a5) = wq2__0_0 Cl n x4 (lq2__1 Cl n x4 (lq2__0 Cl n x4 m) n) a0 a1 a2 a3 a4 a5 := rfl
theorem lqk__0_e0 (Cl : Oracle) (n : Nat) (x6 : RowT sh7) (m : Nat) {a0 a1} : lqk__0 Cl n x6 (m + 1) (.s0 a0 a1) = wqk__0_0 Cl n x6 a0 a1 := rfl
theorem l_parse_rowx1_2_e0 (Cl : Oracle) (n : Nat) (x4 : RowT sh7) (H0 : S_parse_rowx1_0 → OR) (m : Nat) {a0 a1 a2 a3 a4 a5 a6} : l_parse_rowx1_2 Cl n x4 H0 (m + 1) (.s0 a0 a1 a2 a3 a4 a5 a6) = w_parse_rowx1_2_0 Cl n x4 H0 a0 a1 a2 a3 a4 a5 a6 := rfl
theorem l_parse_rowx1_1_e0 (Cl : Oracle) (n : Nat) (x4 : RowT sh7) (H0 : S_parse_rowx1_0 → OR) (m : Nat) {a0 a1 a2 a3 a4 a5 a6 a7 a8 a9 a10} : l_parse_rowx1_1 Cl n x4 H0 (m + 1) (.s0 a0 a1 a2 a3 a4 a5 a6 a7 a8 a9 a10) = w_parse_rowx1_1_0 Cl n x4 (l_parse_rowx1_1 Cl n x4 H0 m) (l_parse_rowx1_2 Cl n x4 H0 n) a0 a1 a2 a3 a4 a5 a6 a7 a8 a9 a10 := rfl
theorem l_parse_rowx1_0_e0 (Cl : Oracle) (n : Nat) (x4 : RowT sh7) (m : Nat) {a0 a1 a2 a3 a4 a5} : l_parse_rowx1_0 Cl n x4 (m + 1) (.s0 a0 a1 a2 a3 a4 a5) = w_parse_rowx1_0_0 Cl n x4 (l_parse_rowx1_1 Cl n x4 (l_parse_rowx1_0 Cl n x4 m) n) a0 a1 a2 a3 a4 a5 := rfl
theorem lqg__0_e0 (Cl : Oracle) (n : Nat) (x0 : RowT sh7) (m : Nat) {a0 a1} : lqg__0 Cl n x0 (m + 1) (.s0 a0 a1) = wqg__0_0 Cl n x0 a0 a1 := rfl
theorem l_parse_rowx2_2_e0 (Cl : Oracle) (n : Nat) (x4 : RowT sh7) (H0 : S_parse_rowx2_0 → OR) (m : Nat) {a0 a1 a2 a3 a4 a5 a6} : l_parse_rowx2_2 Cl n x4 H0 (m + 1) (.s0 a0 a1 a2 a3 a4 a5 a6) = w_parse_rowx2_2_0 Cl n x4 H0 a0 a1 a2 a3 a4 a5 a6 := rfl
theorem l_parse_rowx2_1_e0 (Cl : Oracle) (n : Nat) (x4 : RowT sh7) (H0 : S_parse_rowx2_0 → OR) (m : Nat) {a0 a1 a2 a3 a4 a5 a6 a7 a8 a9 a10} : l_parse_rowx2_1 Cl n x4 H0 (m + 1) (.s0 a0 a1 a2 a3 a4 a5 a6 a7 a8 a9 a10) = w_parse_rowx2_1_0 Cl n x4 (l_parse_rowx2_1 Cl n x4 H0 m) (l_parse_rowx2_2 Cl n x4 H0 n) a0 a1 a2 a3 a4 a5 a6 a7 a8 a9 a10 := rfl
theorem l_parse_rowx2_0_e0 (Cl : Oracle) (n : Nat) (x4 : RowT sh7) (m : Nat) {a0 a1 a2 a3 a4 a5} : l_parse_rowx2_0 Cl n x4 (m + 1) (.s0 a0 a1 a2 a3 a4 a5) = w_parse_rowx2_0_0 Cl n x4 (l_parse_rowx2_1 Cl n x4 (l_parse_rowx2_0 Cl n x4 m) n) a0 a1 a2 a3 a4 a5 := rfl
theorem l_parse_rowx3_2_e0 (Cl : Oracle) (n : Nat) (x4 : RowT sh7) (H0 : S_parse_rowx3_0 → OR) (m : Nat) {a0 a1 a2 a3 a4 a5 a6} : l_parse_rowx3_2 Cl n x4 H0 (m + 1) (.s0 a0 a1 a2 a3 a4 a5 a6) = w_parse_rowx3_2_0 Cl n x4 H0 a0 a1 a2 a3 a4 a5 a6 := rfl
theorem l_parse_rowx3_1_e0 (Cl : Oracle) (n : Nat) (x4 : RowT sh7) (H0 : S_parse_rowx3_0 → OR) (m : Nat) {a0 a1 a2 a3 a4 a5 a6 a7 a8 a9 a10} : l_parse_rowx3_1 Cl n x4 H0 (m + 1) (.s0 a0 a1 a2 a3 a4 a5 a6 a7 a8 a9 a10) = w_parse_rowx3_1_0 Cl n x4 (l_parse_rowx3_1 Cl n x4 H0 m) (l_parse_rowx3_2 Cl n x4 H0 n) a0 a1 a2 a3 a4 a5 a6 a7 a8 a9 a10 := rfl
theorem l_parse_rowx3_0_e0 (Cl : Oracle) (n : Nat) (x4 : RowT sh7) (m : Nat) {a0 a1 a2 a3 a4 a5} : l_parse_rowx3_0 Cl n x4 (m + 1) (.s0 a0 a1 a2 a3 a4 a5) = w_parse_rowx3_0_0 Cl n x4 (l_parse_rowx3_1 Cl n x4 (l_parse_rowx3_0 Cl n x4 m) n) a0 a1 a2 a3 a4 a5 := rfl
theorem lqj__0_e0 (Cl : Oracle) (n : Nat) (x1 : RowT sh7) (m : Nat) {a0 a1} : lqj__0 Cl n x1 (m + 1) (.s0 a0 a1) = wqj__0_0 Cl n x1 a0 a1 := rfl
theorem eq8_ (m : Nat) (x0 : Bool) (x1 : RR) (x2 : Int) : T (m + 1) 3 [(.one (lC (.im x0) 6 x1)), (.one (iC x2))] [] = tq8_ (T m) m x0 x1 x2 := by
 rw [T_succ, show step (T m) m 3 = st3 (T m) m from rfl]; unfold st3; rfl
theorem eql_ (m : Nat) (x0 : Bool) (x1 : RR) (x2 : Int) : T (m + 1) 5 [(.one (lC (.im x0) 6 x1)), (.one (iC x2))] [] = tql_ (T m) m x0 x1 x2 := by
 rw [T_succ, show step (T m) m 5 = st5 (T m) m from rfl]; unfold st5; rfl
theorem eqz_ (m : Nat) (x0 : Bool) (x1 : RR) (x2 : Int) : T (m + 1) 7 [(.one (lC (.im x0) 6 x1)), (.one (iC x2))] [] = tqz_ (T m) m x0 x1 x2 := by
 rw [T_succ, show step (T m) m 7 = st7 (T m) m from rfl]; unfold st7; rfl
theorem eqi_ (m : Nat) (x0 : BB) : T (m + 1) 6 [(.one (sC x0))] [] = tqi_ (T m) m x0 := by
 rw [T_succ, show step (T m) m 6 = st6 (T m) m from rfl]; unfold st6; rfl
theorem eq7_ (m : Nat) (x0 : Int) (x1 : Int) (x2 : RowT [.tg 6]) (x3 : RowT [.tg 1]) (x4 : RowT sh4) : T (m + 1) 8 [(.one (iC x0)), (.one (iC x1)), pE, (.one (.ptr (.e 1) 0 0)), (.one (.ptr (.e 2) 0 0))] [(bx [.tg 6] x2), (bx [.tg 1] x3), (bx sh4 x4)] = tq7_ (T m) m x0 x1 x2 x3 x4 := by
 rw [T_succ, show step (T m) m 8 = st8 (T m) m from rfl]; unfold st8; simp only [unbx_bx, qOpt]
theorem eqq_ (m : Nat) (x0 : Bool) (x1 : RR) (x2 : Int) (x3 : RowT sh5) : T (m + 1) 19 [pE, (.one (lC (.im x0) 6 x1)), (.one (iC x2))] [(bx sh5 x3)] = tqq_ (T m) m x0 x1 x2 x3 := by
 rw [T_succ, show step (T m) m 19 = st19 (T m) m from rfl]; unfold st19; simp only [unbx_bx, qOpt]
theorem eq10_ (m : Nat) (x0 : RowT sh5) : T (m + 1) 20 [pE] [(bx sh5 x0)] = tq10_ (T m) m x0 := by
 rw [T_succ, show step (T m) m 20 = st20 (T m) m from rfl]; unfold st20; simp only [unbx_bx, qOpt]
theorem eq5_ (m : Nat) (x0 : BB) : T (m + 1) 11 [(.one (sC x0))] [] = tq5_ (T m) m x0 := by
 rw [T_succ, show step (T m) m 11 = st11 (T m) m from rfl]; unfold st11; rfl
theorem eqs_ (m : Nat) (x0 : RowT sh7) : T (m + 1) 12 [pE] [(bx sh7 x0)] = tqs_ (T m) m x0 := by
 rw [T_succ, show step (T m) m 12 = st12 (T m) m from rfl]; unfold st12; simp only [unbx_bx, qOpt]
theorem eqp_ (m : Nat) (x0 : BB) (x1 : RowT sh7) : T (m + 1) 13 [pE, (.one (sC x0))] [(bx sh7 x1)] = tqp_ (T m) m x0 x1 := by
 rw [T_succ, show step (T m) m 13 = st13 (T m) m from rfl]; unfold st13; simp only [unbx_bx, qOpt]
theorem eq0_ (m : Nat) (x0 : RowT sh7) : T (m + 1) 16 [pE] [(bx sh7 x0)] = tq0_ (T m) m x0 := by
 rw [T_succ, show step (T m) m 16 = st16 (T m) m from rfl]; unfold st16; simp only [unbx_bx, qOpt]
theorem eqx_ (m : Nat) (x0 : RowT sh7) : T (m + 1) 18 [pE] [(bx sh7 x0)] = tqx_ (T m) m x0 := by
 rw [T_succ, show step (T m) m 18 = st18 (T m) m from rfl]; unfold st18; simp only [unbx_bx, qOpt]
theorem eqn_ (m : Nat) (x0 : Int) : T (m + 1) 9 [(.one (iC x0))] [] = tqn_ (T m) m x0 := by
 rw [T_succ, show step (T m) m 9 = st9 (T m) m from rfl]; unfold st9; rfl
theorem eq11_ (m : Nat) (x0 : Int) (x1 : BB) (x2 : Int) (x3 : BB) (x4 : Int) (x5 : Int) : T (m + 1) 10 [(.agg [(iC x0), (sC x1), (iC x2), (sC x3), (iC x4), (iC x5)])] [] = tq11_ (T m) m x0 x1 x2 x3 x4 x5 := by
 rw [T_succ, show step (T m) m 10 = st10 (T m) m from rfl]; unfold st10; rfl
theorem eq12_ (m : Nat) (x0 : Int) (x1 : BB) (x2 : Int) (x3 : BB) (x4 : Int) (x5 : Int) : T (m + 1) 39 [(.agg [(iC x0), (sC x1), (iC x2), (sC x3), (iC x4), (iC x5)])] [] = tq12_ (T m) m x0 x1 x2 x3 x4 x5 := by
 rw [T_succ, show step (T m) m 39 = st39 (T m) m from rfl]; unfold st39; rfl
theorem eq13_ (m : Nat) (x0 : BB) (x1 : RowT sh5) : T (m + 1) 38 [pE, (.one (sC x0))] [(bx sh5 x1)] = tq13_ (T m) m x0 x1 := by
 rw [T_succ, show step (T m) m 38 = st38 (T m) m from rfl]; unfold st38; simp only [unbx_bx, qOpt]
theorem eq14_ (m : Nat) (x0 : Int) : T (m + 1) 40 [(.one (iC x0))] [] = tq14_ (T m) m x0 := by
 rw [T_succ, show step (T m) m 40 = st40 (T m) m from rfl]; unfold st40; rfl
theorem eq15_ (m : Nat) (x0 : Int) : T (m + 1) 41 [(.one (iC x0))] [] = tq15_ (T m) m x0 := by
 rw [T_succ, show step (T m) m 41 = st41 (T m) m from rfl]; unfold st41; rfl
theorem eq16_ (m : Nat) (x0 : Int) : T (m + 1) 22 [(.one (.d (.int .u8 x0)))] [] = tq16_ (T m) m x0 := by
 rw [T_succ, show step (T m) m 22 = st22 (T m) m from rfl]; unfold st22; rfl
theorem eq17_ (m : Nat) (x0 : Int) (x1 : BB) (x2 : Int) : T (m + 1) 23 [(.agg [(iC x0), (sC x1), (iC x2)])] [] = tq17_ (T m) m x0 x1 x2 := by
 rw [T_succ, show step (T m) m 23 = st23 (T m) m from rfl]; unfold st23; rfl
theorem eq18_ (m : Nat) (x0 : Int) : T (m + 1) 26 [(.one (.d (.int .u8 x0)))] [] = tq18_ (T m) m x0 := by
 rw [T_succ, show step (T m) m 26 = st26 (T m) m from rfl]; unfold st26; rfl
theorem e_lex_runx1 (m : Nat) (x0 : BB) (x1 : Int) : T (m + 1) 24 [(.one (sC x0)), (.one (iC x1)), (.one (.fn 27 [] []))] [] = t_lex_runx1 (T m) m x0 x1 := by
 rw [T_succ, show step (T m) m 24 = st24 (T m) m from rfl]; unfold st24; simp only [orF, unbx_bx, qOpt]; try (generalize t_lex_runx1 (T m) m x0 x1 = r; cases r <;> rfl)
theorem e_lex_runx2 (m : Nat) (x0 : BB) (x1 : Int) : T (m + 1) 24 [(.one (sC x0)), (.one (iC x1)), (.one (.fn 22 [] []))] [] = t_lex_runx2 (T m) m x0 x1 := by
 rw [T_succ, show step (T m) m 24 = st24 (T m) m from rfl]; unfold st24; simp only [orF, unbx_bx, qOpt]; try (generalize t_lex_runx2 (T m) m x0 x1 = r; cases r <;> rfl)
theorem eqb_ (m : Nat) (x0 : BB) : T (m + 1) 28 [(.one (sC x0))] [] = tqb_ (T m) m x0 := by
 rw [T_succ, show step (T m) m 28 = st28 (T m) m from rfl]; unfold st28; rfl
theorem eq1_ (m : Nat) (x0 : BB) (x1 : Int) : T (m + 1) 29 [(.one (sC x0)), (.one (iC x1))] [] = tq1_ (T m) m x0 x1 := by
 rw [T_succ, show step (T m) m 29 = st29 (T m) m from rfl]; unfold st29; rfl
theorem eqe_ (m : Nat) (x0 : BB) (x1 : Int) : T (m + 1) 30 [(.one (sC x0)), (.one (iC x1))] [] = tqe_ (T m) m x0 x1 := by
 rw [T_succ, show step (T m) m 30 = st30 (T m) m from rfl]; unfold st30; rfl
theorem eqt_ (m : Nat) (x0 : BB) (x1 : RowT sh7) : T (m + 1) 31 [pE, (.one (sC x0))] [(bx sh7 x1)] = tqt_ (T m) m x0 x1 := by
 rw [T_succ, show step (T m) m 31 = st31 (T m) m from rfl]; unfold st31; simp only [unbx_bx, qOpt]
theorem eq19_ (m : Nat) (x0 : RowT sh7) : T (m + 1) 32 [pE] [(bx sh7 x0)] = tq19_ (T m) m x0 := by
 rw [T_succ, show step (T m) m 32 = st32 (T m) m from rfl]; unfold st32; simp only [unbx_bx, qOpt]
theorem equ_ (m : Nat) (x0 : BB) (x1 : RowT sh7) : T (m + 1) 33 [pE, (.one (sC x0))] [(bx sh7 x1)] = tqu_ (T m) m x0 x1 := by
 rw [T_succ, show step (T m) m 33 = st33 (T m) m from rfl]; unfold st33; simp only [unbx_bx, qOpt]
theorem eq1a_ (m : Nat) (x0 : RowT sh7) : T (m + 1) 37 [pE] [(bx sh7 x0)] = tq1a_ (T m) m x0 := by
 rw [T_succ, show step (T m) m 37 = st37 (T m) m from rfl]; unfold st37; simp only [unbx_bx, qOpt]
theorem eq9_ (m : Nat) (x0 : BB) : T (m + 1) 21 [(.one (sC x0))] [] = tq9_ (T m) m x0 := by
 rw [T_succ, show step (T m) m 21 = st21 (T m) m from rfl]; unfold st21; rfl
theorem eq1b_ (m : Nat) (x0 : Bool) : T (m + 1) 54 [(.one (bC x0))] [] = tq1b_ (T m) m x0 := by
 rw [T_succ, show step (T m) m 54 = st54 (T m) m from rfl]; unfold st54; rfl
theorem eq6_ (m : Nat) (x0 : BB) : T (m + 1) 55 [(.one (sC x0))] [] = tq6_ (T m) m x0 := by
 rw [T_succ, show step (T m) m 55 = st55 (T m) m from rfl]; unfold st55; rfl
theorem eqm_ (m : Nat) (x0 : BB) : T (m + 1) 43 [(.one (sC x0))] [] = tqm_ (T m) m x0 := by
 rw [T_succ, show step (T m) m 43 = st43 (T m) m from rfl]; unfold st43; rfl
theorem eqd_ (m : Nat) (x0 : Int) : T (m + 1) 27 [(.one (.d (.int .u8 x0)))] [] = tqd_ (T m) m x0 := by
 rw [T_succ, show step (T m) m 27 = st27 (T m) m from rfl]; unfold st27; rfl
theorem eqf_ (m : Nat) (x0 : Int) (x1 : RowT [.str]) : T (m + 1) 46 [(.one (iC x0)), pE] [(bx [.str] x1)] = tqf_ (T m) m x0 x1 := by
 rw [T_succ, show step (T m) m 46 = st46 (T m) m from rfl]; unfold st46; simp only [unbx_bx, qOpt]
theorem eq1c_ (m : Nat) (x0 : Int) : T (m + 1) 47 [(.one (.d (.int .u8 x0)))] [] = tq1c_ (T m) m x0 := by
 rw [T_succ, show step (T m) m 47 = st47 (T m) m from rfl]; unfold st47; rfl
theorem eq1d_ (m : Nat) (x0 : Int) : T (m + 1) 48 [(.one (.d (.int .u8 x0)))] [] = tq1d_ (T m) m x0 := by
 rw [T_succ, show step (T m) m 48 = st48 (T m) m from rfl]; unfold st48; rfl
theorem eq1e_ (m : Nat) (x0 : RowT sh7) : T (m + 1) 49 [pE] [(bx sh7 x0)] = tq1e_ (T m) m x0 := by
 rw [T_succ, show step (T m) m 49 = st49 (T m) m from rfl]; unfold st49; simp only [unbx_bx, qOpt]
theorem eq4_ (m : Nat) (x0 : RowT sh7) : T (m + 1) 51 [pE] [(bx sh7 x0)] = tq4_ (T m) m x0 := by
 rw [T_succ, show step (T m) m 51 = st51 (T m) m from rfl]; unfold st51; simp only [unbx_bx, qOpt]
theorem eq1f_ (m : Nat) (x0 : Int) : T (m + 1) 42 [(.one (.d (.int .u8 x0)))] [] = tq1f_ (T m) m x0 := by
 rw [T_succ, show step (T m) m 42 = st42 (T m) m from rfl]; unfold st42; rfl
theorem eq1g_ (m : Nat) (x0 : Int) : T (m + 1) 44 [(.one (.d (.int .u8 x0)))] [] = tq1g_ (T m) m x0 := by
 rw [T_succ, show step (T m) m 44 = st44 (T m) m from rfl]; unfold st44; rfl
theorem eq1h_ (m : Nat) (x0 : Bool) : T (m + 1) 63 [(.one (bC x0))] [] = tq1h_ (T m) m x0 := by
 rw [T_succ, show step (T m) m 63 = st63 (T m) m from rfl]; unfold st63; rfl
theorem eqc_ (m : Nat) (x0 : RowT sh7) (x1 : RowT sh15) : T (m + 1) 59 [pE, (.one (.ptr (.e 1) 0 0))] [(bx sh7 x0), (bx sh15 x1)] = tqc_ (T m) m x0 x1 := by
 rw [T_succ, show step (T m) m 59 = st59 (T m) m from rfl]; unfold st59; simp only [unbx_bx, qOpt]
theorem eq3_ (m : Nat) (x0 : RowT sh7) (x1 : RowT sh15) : T (m + 1) 60 [pE, (.one (.ptr (.e 1) 0 0))] [(bx sh7 x0), (bx sh15 x1)] = tq3_ (T m) m x0 x1 := by
 rw [T_succ, show step (T m) m 60 = st60 (T m) m from rfl]; unfold st60; simp only [unbx_bx, qOpt]
theorem eqv_ (m : Nat) (x0 : RowT sh7) : T (m + 1) 69 [pE] [(bx sh7 x0)] = tqv_ (T m) m x0 := by
 rw [T_succ, show step (T m) m 69 = st69 (T m) m from rfl]; unfold st69; simp only [unbx_bx, qOpt]
theorem eqw_ (m : Nat) (x0 : RowT sh7) : T (m + 1) 83 [pE] [(bx sh7 x0)] = tqw_ (T m) m x0 := by
 rw [T_succ, show step (T m) m 83 = st83 (T m) m from rfl]; unfold st83; simp only [unbx_bx, qOpt]
theorem eqy_ (m : Nat) (x0 : Int) : T (m + 1) 90 [(.one (iC x0))] [] = tqy_ (T m) m x0 := by
 rw [T_succ, show step (T m) m 90 = st90 (T m) m from rfl]; unfold st90; rfl
theorem eqk_ (m : Nat) (x0 : Int) (x1 : BB) (x2 : Int) (x3 : BB) (x4 : Int) (x5 : Int) (x6 : RowT sh7) : T (m + 1) 91 [pE, (.agg [(iC x0), (sC x1), (iC x2), (sC x3), (iC x4), (iC x5)])] [(bx sh7 x6)] = tqk_ (T m) m x0 x1 x2 x3 x4 x5 x6 := by
 rw [T_succ, show step (T m) m 91 = st91 (T m) m from rfl]; unfold st91; simp only [unbx_bx, qOpt]
theorem eqg_ (m : Nat) (x0 : RowT sh7) : T (m + 1) 92 [pE] [(bx sh7 x0)] = tqg_ (T m) m x0 := by
 rw [T_succ, show step (T m) m 92 = st92 (T m) m from rfl]; unfold st92; simp only [unbx_bx, qOpt]
theorem eqr_ (m : Nat) (x0 : RowT sh7) : T (m + 1) 95 [pE] [(bx sh7 x0)] = tqr_ (T m) m x0 := by
 rw [T_succ, show step (T m) m 95 = st95 (T m) m from rfl]; unfold st95; simp only [unbx_bx, qOpt]
theorem eqo_ (m : Nat) (x0 : RowT sh7) : T (m + 1) 96 [pE] [(bx sh7 x0)] = tqo_ (T m) m x0 := by
 rw [T_succ, show step (T m) m 96 = st96 (T m) m from rfl]; unfold st96; simp only [unbx_bx, qOpt]
theorem eqa_ (m : Nat) (x0 : RowT sh7) : T (m + 1) 97 [pE] [(bx sh7 x0)] = tqa_ (T m) m x0 := by
 rw [T_succ, show step (T m) m 97 = st97 (T m) m from rfl]; unfold st97; simp only [unbx_bx, qOpt]
theorem eqj_ (m : Nat) (x0 : Int) (x1 : RowT sh7) : T (m + 1) 98 [pE, (.one (iC x0))] [(bx sh7 x1)] = tqj_ (T m) m x0 x1 := by
 rw [T_succ, show step (T m) m 98 = st98 (T m) m from rfl]; unfold st98; simp only [unbx_bx, qOpt]
end Go.Proofs.YteaaelhndaijoaaDoor
