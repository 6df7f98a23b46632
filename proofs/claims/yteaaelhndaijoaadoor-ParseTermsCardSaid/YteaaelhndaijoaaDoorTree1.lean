/- The functions that the law reaches as the evaluator takes them, and what they come to: printed by program. -/
import Derived.Test.YteaaelhndaijoaaDoorTree0
set_option maxRecDepth 100000
set_option maxHeartbeats 40000000
set_option linter.unusedVariables false
namespace Go.Proofs.YteaaelhndaijoaaDoor
open Go Go.Abs
def sq2__0_0 (a0 : Bool) (a1 : RR) (a2 : Bool) (a3 : RR) (a4 : RowT sh7) (a5 : Int) : Go.Abs.St := [((.s 0), ⟨pE, 0⟩), ((.s 1), ⟨(.one (.fn 83 [(.ptr (.e 0) 0 0)] [])), 0⟩), ((.s 2), ⟨(.one (lC (.im a0) 1 a1)), 0⟩), ((.s 3), ⟨(.one (lC (.im a2) 1 a3)), 0⟩), ((.r (.e 0)), ⟨(.one (iC 8)), 0⟩), ((.b (.e 0) 0), ⟨(.one (lC (.im a4.1.1) 3 a4.1.2)), 0⟩), ((.b (.e 0) 1), ⟨(.one (iC a4.2.1)), 0⟩), ((.b (.e 0) 2), ⟨(.one (iC a4.2.2.1)), 0⟩), ((.b (.e 0) 3), ⟨(.one (iC a4.2.2.2.1)), 0⟩), ((.b (.e 0) 4), ⟨(.one (sC a4.2.2.2.2.1)), 0⟩), ((.b (.e 0) 5), ⟨(.one (lC a4.2.2.2.2.2.1.1 3 a4.2.2.2.2.2.1.2)), 0⟩), ((.b (.e 0) 6), ⟨(.one (lC a4.2.2.2.2.2.2.1.1 6 a4.2.2.2.2.2.2.1.2)), 0⟩), ((.b (.e 0) 7), ⟨(.one (lC a4.2.2.2.2.2.2.2.1.1 10 a4.2.2.2.2.2.2.2.1.2)), 0⟩), ((.s 9), ⟨(.one (iC a5)), 0⟩)]
def sq2__1_0 (a0 : Bool) (a1 : RR) (a2 : Bool) (a3 : RR) (a4 : RowT sh7) (a5 : Int) (a6 : Int) (a7 : Bool) (a8 : RR) (a9 : Int) (a10 : Int) : Go.Abs.St := [((.s 0), ⟨pE, 0⟩), ((.s 1), ⟨(.one (.fn 83 [(.ptr (.e 0) 0 0)] [])), 0⟩), ((.s 2), ⟨(.one (lC (.im a0) 1 a1)), 0⟩), ((.s 3), ⟨(.one (lC (.im a2) 1 a3)), 0⟩), ((.r (.e 0)), ⟨(.one (iC 8)), 0⟩), ((.b (.e 0) 0), ⟨(.one (lC (.im a4.1.1) 3 a4.1.2)), 0⟩), ((.b (.e 0) 1), ⟨(.one (iC a4.2.1)), 0⟩), ((.b (.e 0) 2), ⟨(.one (iC a4.2.2.1)), 0⟩), ((.b (.e 0) 3), ⟨(.one (iC a4.2.2.2.1)), 0⟩), ((.b (.e 0) 4), ⟨(.one (sC a4.2.2.2.2.1)), 0⟩), ((.b (.e 0) 5), ⟨(.one (lC a4.2.2.2.2.2.1.1 3 a4.2.2.2.2.2.1.2)), 0⟩), ((.b (.e 0) 6), ⟨(.one (lC a4.2.2.2.2.2.2.1.1 6 a4.2.2.2.2.2.2.1.2)), 0⟩), ((.b (.e 0) 7), ⟨(.one (lC a4.2.2.2.2.2.2.2.1.1 10 a4.2.2.2.2.2.2.2.1.2)), 0⟩), ((.s 9), ⟨(.one (iC a5)), 0⟩), ((.s 10), ⟨(.one (iC a6)), 0⟩), ((.s 21), ⟨(.one (lC (.im a7) 1 a8)), 0⟩), ((.s 22), ⟨(.one (iC a9)), 0⟩), ((.s 23), ⟨(.one (iC a10)), 0⟩)]
def sq2__2_0 (a0 : Bool) (a1 : RR) (a2 : Bool) (a3 : RR) (a4 : RowT sh7) (a5 : Int) (a6 : Int) : Go.Abs.St := [((.s 0), ⟨pE, 0⟩), ((.s 1), ⟨(.one (.fn 83 [(.ptr (.e 0) 0 0)] [])), 0⟩), ((.s 2), ⟨(.one (lC (.im a0) 1 a1)), 0⟩), ((.s 3), ⟨(.one (lC (.im a2) 1 a3)), 0⟩), ((.r (.e 0)), ⟨(.one (iC 8)), 0⟩), ((.b (.e 0) 0), ⟨(.one (lC (.im a4.1.1) 3 a4.1.2)), 0⟩), ((.b (.e 0) 1), ⟨(.one (iC a4.2.1)), 0⟩), ((.b (.e 0) 2), ⟨(.one (iC a4.2.2.1)), 0⟩), ((.b (.e 0) 3), ⟨(.one (iC a4.2.2.2.1)), 0⟩), ((.b (.e 0) 4), ⟨(.one (sC a4.2.2.2.2.1)), 0⟩), ((.b (.e 0) 5), ⟨(.one (lC a4.2.2.2.2.2.1.1 3 a4.2.2.2.2.2.1.2)), 0⟩), ((.b (.e 0) 6), ⟨(.one (lC a4.2.2.2.2.2.2.1.1 6 a4.2.2.2.2.2.2.1.2)), 0⟩), ((.b (.e 0) 7), ⟨(.one (lC a4.2.2.2.2.2.2.2.1.1 10 a4.2.2.2.2.2.2.2.1.2)), 0⟩), ((.s 9), ⟨(.one (iC a5)), 0⟩), ((.s 10), ⟨(.one (iC a6)), 0⟩)]
inductive Sq2__0 where | s0 (a0 : Bool) (a1 : RR) (a2 : Bool) (a3 : RR) (a4 : RowT sh7) (a5 : Int)
def Sq2__0.st : Sq2__0 → Go.Abs.St | .s0 a0 a1 a2 a3 a4 a5 => sq2__0_0 a0 a1 a2 a3 a4 a5
inductive Sq2__1 where | s0 (a0 : Bool) (a1 : RR) (a2 : Bool) (a3 : RR) (a4 : RowT sh7) (a5 : Int) (a6 : Int) (a7 : Bool) (a8 : RR) (a9 : Int) (a10 : Int)
def Sq2__1.st : Sq2__1 → Go.Abs.St | .s0 a0 a1 a2 a3 a4 a5 a6 a7 a8 a9 a10 => sq2__1_0 a0 a1 a2 a3 a4 a5 a6 a7 a8 a9 a10
inductive Sq2__2 where | s0 (a0 : Bool) (a1 : RR) (a2 : Bool) (a3 : RR) (a4 : RowT sh7) (a5 : Int) (a6 : Int)
def Sq2__2.st : Sq2__2 → Go.Abs.St | .s0 a0 a1 a2 a3 a4 a5 a6 => sq2__2_0 a0 a1 a2 a3 a4 a5 a6
def wq2__0_0 (Cl : Oracle) (n : Nat) (x4 : RowT sh7) (H1 : Sq2__1 → OR) (a0 : Bool) (a1 : RR) (a2 : Bool) (a3 : RR) (a4 : RowT sh7) (a5 : Int) : OR :=
 (tRes rs6 (Cl 18 [pE] [(bx sh7 a4)]) fun v1 => (bif (!v1.1) then (H1 (.s0 a0 a1 a2 a3 (v1.2.1) a5 (-1) a0 a1 (natI a1.length) 0)) else (some ((.one (iC a5)), [(bx sh7 (v1.2.1))]))))
def wq2__1_0 (Cl : Oracle) (n : Nat) (x4 : RowT sh7) (H1 : Sq2__1 → OR) (H2 : Sq2__2 → OR) (a0 : Bool) (a1 : RR) (a2 : Bool) (a3 : RR) (a4 : RowT sh7) (a5 : Int) (a6 : Int) (a7 : Bool) (a8 : RR) (a9 : Int) (a10 : Int) : OR :=
 (bif (decide (a10 < a9)) then (qOpt (asI a10) fun o2 => (qOpt (a8[o2]?) fun o3 => (gd (decide (1 ≤ o3.length)) (tRow [.str] (List.take 1 o3) fun v4 => (tRes rs6 (Cl 13 [pE, (.one (sC (v4.1)))] [(bx sh7 a4)]) fun v5 => (bif (v5.1) then (qOpt (asI a10) fun o6 => (qOpt (a3[o6]?) fun o7 => (gd (decide (1 ≤ o7.length)) (tRow sh3 (List.take 1 o7) fun v8 => (H2 (.s0 a0 a1 a2 a3 (v5.2.1) a5 (v8.1))))))) else (H1 (.s0 a0 a1 a2 a3 (v5.2.1) a5 a6 a7 a8 a9 (w64 (a10 + (1 : Int))))))))))) else (H2 (.s0 a0 a1 a2 a3 a4 a5 a6)))
def wq2__2_0 (Cl : Oracle) (n : Nat) (x4 : RowT sh7) (H0 : Sq2__0 → OR) (a0 : Bool) (a1 : RR) (a2 : Bool) (a3 : RR) (a4 : RowT sh7) (a5 : Int) (a6 : Int) : OR :=
 (bif (decide (a6 < (0 : Int))) then (some ((.one (iC a5)), [(bx sh7 a4)])) else (tRes rs26 (Cl 90 [(.one (iC a6))] []) fun v9 => (tRes rs17 (Cl 83 [pE] [(bx sh7 a4)]) fun v10 => (tRes rs17 (Cl 91 [pE, (.agg [(iC (v9.1.1)), (sC (v9.1.2.1)), (iC (v9.1.2.2.1)), (sC (v9.1.2.2.2.1)), (iC a5), (iC (v10.1))])] [(bx sh7 (v10.2.1))]) fun v11 => (H0 (.s0 a0 a1 a2 a3 (v11.2.1) (v11.1)))))))
def lq2__2 (Cl : Oracle) (n : Nat) (x4 : RowT sh7) (H0 : Sq2__0 → OR) (m : Nat) : Sq2__2 → OR := Nat.rec (fun _ => none) (fun _ ih s => match s with | .s0 a0 a1 a2 a3 a4 a5 a6 => wq2__2_0 Cl n x4 H0 a0 a1 a2 a3 a4 a5 a6) m
theorem hlq2__2 (Cl : Oracle) (n : Nat) (x4 : RowT sh7) (m0 : Nat) : ∀ (m : Nat) (s : Sq2__2), h82_2 Cl n [(bx sh7 x4)] m0 m s.st = lq2__2 Cl n x4 (fun s => h82_0 Cl n [(bx sh7 x4)] m0 s.st) m s := by
 intro m
 induction m with
 | zero => intro s; kernel_rfl
 | succ m ih =>
  intro s
  cases s with
  | s0 a0 a1 a2 a3 a4 a5 a6 =>
   have h : h82_2 Cl n [(bx sh7 x4)] m0 (m + 1) (sq2__2_0 a0 a1 a2 a3 a4 a5 a6) = wq2__2_0 Cl n x4 (fun s => h82_0 Cl n [(bx sh7 x4)] m0 s.st) a0 a1 a2 a3 a4 a5 a6 := by kernel_rfl
   exact h
def lq2__1 (Cl : Oracle) (n : Nat) (x4 : RowT sh7) (H0 : Sq2__0 → OR) (m : Nat) : Sq2__1 → OR := Nat.rec (fun _ => none) (fun _ ih s => match s with | .s0 a0 a1 a2 a3 a4 a5 a6 a7 a8 a9 a10 => wq2__1_0 Cl n x4 ih (lq2__2 Cl n x4 H0 n) a0 a1 a2 a3 a4 a5 a6 a7 a8 a9 a10) m
theorem hlq2__1 (Cl : Oracle) (n : Nat) (x4 : RowT sh7) (m0 : Nat) : ∀ (m : Nat) (s : Sq2__1), h82_1 Cl n [(bx sh7 x4)] m0 m s.st = lq2__1 Cl n x4 (fun s => h82_0 Cl n [(bx sh7 x4)] m0 s.st) m s := by
 intro m
 induction m with
 | zero => intro s; kernel_rfl
 | succ m ih =>
  intro s
  have e1 : (fun s => h82_1 Cl n [(bx sh7 x4)] m0 m s.st) = lq2__1 Cl n x4 (fun s => h82_0 Cl n [(bx sh7 x4)] m0 s.st) m := funext ih
  have e2 : (fun s => h82_2 Cl n [(bx sh7 x4)] m0 n s.st) = lq2__2 Cl n x4 (fun s => h82_0 Cl n [(bx sh7 x4)] m0 s.st) n := funext (hlq2__2 Cl n x4 m0 n)
  cases s with
  | s0 a0 a1 a2 a3 a4 a5 a6 a7 a8 a9 a10 =>
   have h : h82_1 Cl n [(bx sh7 x4)] m0 (m + 1) (sq2__1_0 a0 a1 a2 a3 a4 a5 a6 a7 a8 a9 a10) = wq2__1_0 Cl n x4 (fun s => h82_1 Cl n [(bx sh7 x4)] m0 m s.st) (fun s => h82_2 Cl n [(bx sh7 x4)] m0 n s.st) a0 a1 a2 a3 a4 a5 a6 a7 a8 a9 a10 := by kernel_rfl
   rw [e2, e1] at h
   exact h
def lq2__0 (Cl : Oracle) (n : Nat) (x4 : RowT sh7) (m : Nat) : Sq2__0 → OR := Nat.rec (fun _ => none) (fun _ ih s => match s with | .s0 a0 a1 a2 a3 a4 a5 => wq2__0_0 Cl n x4 (lq2__1 Cl n x4 ih n) a0 a1 a2 a3 a4 a5) m
theorem hlq2__0 (Cl : Oracle) (n : Nat) (x4 : RowT sh7) : ∀ (m : Nat) (s : Sq2__0), h82_0 Cl n [(bx sh7 x4)] m s.st = lq2__0 Cl n x4 m s := by
 intro m
 induction m with
 | zero => intro s; kernel_rfl
 | succ m ih =>
  intro s
  have e0 : (fun s => h82_0 Cl n [(bx sh7 x4)] m s.st) = lq2__0 Cl n x4 m := funext ih
  have e1 : (fun s => h82_1 Cl n [(bx sh7 x4)] m n s.st) = lq2__1 Cl n x4 (fun s => h82_0 Cl n [(bx sh7 x4)] m s.st) n := funext (hlq2__1 Cl n x4 m n)
  cases s with
  | s0 a0 a1 a2 a3 a4 a5 =>
   have h : h82_0 Cl n [(bx sh7 x4)] (m + 1) (sq2__0_0 a0 a1 a2 a3 a4 a5) = wq2__0_0 Cl n x4 (fun s => h82_1 Cl n [(bx sh7 x4)] m n s.st) a0 a1 a2 a3 a4 a5 := by kernel_rfl
   rw [e1, e0] at h
   exact h
def ttq2_ (Cl : Oracle) (n : Nat) (H0 : Sq2__0 → OR) (x0 : Bool) (x1 : RR) (x2 : Bool) (x3 : RR) (x4 : RowT sh7) : OR :=
 (tRes rs17 (Cl 83 [pE] [(bx sh7 x4)]) fun v0 => (H0 (.s0 x0 x1 x2 x3 (v0.2.1) (v0.1))))
def tq2_ (Cl : Oracle) (n : Nat) (x0 : Bool) (x1 : RR) (x2 : Bool) (x3 : RR) (x4 : RowT sh7) : OR := ttq2_ Cl n (lq2__0 Cl n x4 n) x0 x1 x2 x3 x4
theorem ptq2_ (Cl : Oracle) (n : Nat) (x0 : Bool) (x1 : RR) (x2 : Bool) (x3 : RR) (x4 : RowT sh7) : evBodyA an82 Cl n k82 [pE, (.one (.fn 83 [(.ptr (.e 0) 0 0)] [])), (.one (lC (.im x0) 1 x1)), (.one (lC (.im x2) 1 x3))] [(bx sh7 x4)] = tq2_ Cl n x0 x1 x2 x3 x4 := by
 have h : evBodyA an82 Cl n k82 [pE, (.one (.fn 83 [(.ptr (.e 0) 0 0)] [])), (.one (lC (.im x0) 1 x1)), (.one (lC (.im x2) 1 x3))] [(bx sh7 x4)] = ttq2_ Cl n (fun s => h82_0 Cl n [(bx sh7 x4)] n s.st) x0 x1 x2 x3 x4 := by kernel_rfl
 have e0 : (fun s => h82_0 Cl n [(bx sh7 x4)] n s.st) = lq2__0 Cl n x4 n := funext (hlq2__0 Cl n x4 n)
 rw [e0] at h
 exact h
def tqw_ (Cl : Oracle) (n : Nat) (x0 : RowT sh7) : OR :=
 (tRes rs17 (Cl 82 [pE, (.one (.fn 92 [(.ptr (.e 0) 0 0)] [])), (.one (lC (.im false) 1 [[(.str [97, 110, 100])]])), (.one (lC (.im false) 1 [[(.int .i64 13)]]))] [(bx sh7 x0)]) fun v0 => (some ((.one (iC (v0.1))), [(bx sh7 (v0.2.1))])))
theorem ptqw_ (Cl : Oracle) (n : Nat) (x0 : RowT sh7) : evBodyA an83 Cl n k83 [pE] [(bx sh7 x0)] = tqw_ Cl n x0 := by kernel_rfl
def tqy_ (Cl : Oracle) (n : Nat) (x0 : Int) : OR :=
 (some ((.agg [(iC x0), (sC []), (iC 0), (sC []), (iC (-1)), (iC (-1))]), []))
theorem ptqy_ (Cl : Oracle) (n : Nat) (x0 : Int) : evBodyA an90 Cl n k90 [(.one (iC x0))] [] = tqy_ Cl n x0 := by kernel_rfl
def sqk__0_0 (a0 : RowT sh7) (a1 : RowT sh10) : Go.Abs.St := [((.s 0), ⟨pE, 0⟩), ((.r (.e 0)), ⟨(.one (iC 8)), 0⟩), ((.b (.e 0) 0), ⟨(.one (lC (.im a0.1.1) 3 a0.1.2)), 0⟩), ((.b (.e 0) 1), ⟨(.one (iC a0.2.1)), 0⟩), ((.b (.e 0) 2), ⟨(.one (iC a0.2.2.1)), 0⟩), ((.b (.e 0) 3), ⟨(.one (iC a0.2.2.2.1)), 0⟩), ((.b (.e 0) 4), ⟨(.one (sC a0.2.2.2.2.1)), 0⟩), ((.b (.e 0) 5), ⟨(.one (lC a0.2.2.2.2.2.1.1 3 a0.2.2.2.2.2.1.2)), 0⟩), ((.b (.e 0) 6), ⟨(.one (lC a0.2.2.2.2.2.2.1.1 6 a0.2.2.2.2.2.2.1.2)), 0⟩), ((.b (.e 0) 7), ⟨(.one (lC a0.2.2.2.2.2.2.2.1.1 10 a0.2.2.2.2.2.2.2.1.2)), 0⟩), ((.r (.l 3)), ⟨(.one (iC 6)), 1⟩), ((.b (.l 3) 0), ⟨(.one (iC a1.1)), 0⟩), ((.b (.l 3) 1), ⟨(.one (sC a1.2.1)), 0⟩), ((.b (.l 3) 2), ⟨(.one (iC a1.2.2.1)), 0⟩), ((.b (.l 3) 3), ⟨(.one (sC a1.2.2.2.1)), 0⟩), ((.b (.l 3) 4), ⟨(.one (iC a1.2.2.2.2.1)), 0⟩), ((.b (.l 3) 5), ⟨(.one (iC a1.2.2.2.2.2.1)), 0⟩)]
inductive Sqk__0 where | s0 (a0 : RowT sh7) (a1 : RowT sh10)
def Sqk__0.st : Sqk__0 → Go.Abs.St | .s0 a0 a1 => sqk__0_0 a0 a1
def wqk__0_0 (Cl : Oracle) (n : Nat) (x6 : RowT sh7) (a0 : RowT sh7) (a1 : RowT sh10) : OR :=
 (tagI (a0.2.2.2.2.2.2.1.1) (fun b1 => (some ((.one (iC (w64 (natI a0.2.2.2.2.2.2.1.2.length - (1 : Int))))), [(bx sh7 (a0.1, (a0.2.1), (a0.2.2.1), (a0.2.2.2.1), (a0.2.2.2.2.1), a0.2.2.2.2.2.1, ((.im b1), (a0.2.2.2.2.2.2.1.2)), a0.2.2.2.2.2.2.2.1, ()))]))) (some ((.one (iC (w64 (natI a0.2.2.2.2.2.2.1.2.length - (1 : Int))))), [(bx sh7 (a0.1, (a0.2.1), (a0.2.2.1), (a0.2.2.2.1), (a0.2.2.2.2.1), a0.2.2.2.2.2.1, (.own, (a0.2.2.2.2.2.2.1.2)), a0.2.2.2.2.2.2.2.1, ()))])))
def lqk__0 (Cl : Oracle) (n : Nat) (x6 : RowT sh7) (m : Nat) : Sqk__0 → OR := Nat.rec (fun _ => none) (fun _ ih s => match s with | .s0 a0 a1 => wqk__0_0 Cl n x6 a0 a1) m
theorem hlqk__0 (Cl : Oracle) (n : Nat) (x6 : RowT sh7) : ∀ (m : Nat) (s : Sqk__0), h91_0 Cl n [(bx sh7 x6)] m s.st = lqk__0 Cl n x6 m s := by
 intro m
 induction m with
 | zero => intro s; kernel_rfl
 | succ m ih =>
  intro s
  cases s with
  | s0 a0 a1 =>
   have h : h91_0 Cl n [(bx sh7 x6)] (m + 1) (sqk__0_0 a0 a1) = wqk__0_0 Cl n x6 a0 a1 := by kernel_rfl
   exact h
def ttqk_ (Cl : Oracle) (n : Nat) (H0 : Sqk__0 → OR) (x0 : Int) (x1 : BB) (x2 : Int) (x3 : BB) (x4 : Int) (x5 : Int) (x6 : RowT sh7) : OR :=
 (tagI (x6.2.2.2.2.2.2.1.1) (fun b0 => (gd (b0 && true && true) (H0 (.s0 (x6.1, (x6.2.1), (x6.2.2.1), (x6.2.2.2.1), (x6.2.2.2.2.1), x6.2.2.2.2.2.1, (.own, [[(.int .i64 x0), (.str x1), (.int .i64 x2), (.str x3), (.int .i64 x4), (.int .i64 x5)]]), x6.2.2.2.2.2.2.2.1, ()) (x0, x1, x2, x3, x4, x5, ()))))) (gd (x6.2.2.2.2.2.2.1.2.length == x6.2.2.2.2.2.2.1.2.length && true && decide ((x6.2.2.2.2.2.2.1.2.length + 1) * 64 ≤ 140737488355328)) (H0 (.s0 (x6.1, (x6.2.1), (x6.2.2.1), (x6.2.2.2.1), (x6.2.2.2.2.1), x6.2.2.2.2.2.1, (.own, (x6.2.2.2.2.2.2.1.2 ++ [[D.int .i64 (0 : Int), D.str [], D.int .i64 (0 : Int), D.str [], D.int .i64 (0 : Int), D.int .i64 (0 : Int)]].set 0 [D.int .i64 x0, D.str x1, D.int .i64 x2, D.str x3, D.int .i64 x4, D.int .i64 x5])), x6.2.2.2.2.2.2.2.1, ()) (x0, x1, x2, x3, x4, x5, ())))))
def tqk_ (Cl : Oracle) (n : Nat) (x0 : Int) (x1 : BB) (x2 : Int) (x3 : BB) (x4 : Int) (x5 : Int) (x6 : RowT sh7) : OR := ttqk_ Cl n (lqk__0 Cl n x6 n) x0 x1 x2 x3 x4 x5 x6
theorem ptqk_ (Cl : Oracle) (n : Nat) (x0 : Int) (x1 : BB) (x2 : Int) (x3 : BB) (x4 : Int) (x5 : Int) (x6 : RowT sh7) : evBodyA an91 Cl n k91 [pE, (.agg [(iC x0), (sC x1), (iC x2), (sC x3), (iC x4), (iC x5)])] [(bx sh7 x6)] = tqk_ Cl n x0 x1 x2 x3 x4 x5 x6 := by
 have h : evBodyA an91 Cl n k91 [pE, (.agg [(iC x0), (sC x1), (iC x2), (sC x3), (iC x4), (iC x5)])] [(bx sh7 x6)] = ttqk_ Cl n (fun s => h91_0 Cl n [(bx sh7 x6)] n s.st) x0 x1 x2 x3 x4 x5 x6 := by kernel_rfl
 have e0 : (fun s => h91_0 Cl n [(bx sh7 x6)] n s.st) = lqk__0 Cl n x6 n := funext (hlqk__0 Cl n x6 n)
 rw [e0] at h
 exact h
def s_parse_rowx1_0_0 (a0 : Bool) (a1 : RR) (a2 : Bool) (a3 : RR) (a4 : RowT sh7) (a5 : Int) : Go.Abs.St := [((.s 0), ⟨pE, 0⟩), ((.s 1), ⟨(.one (.fn 92 [(.ptr (.e 0) 0 0)] [])), 0⟩), ((.s 2), ⟨(.one (lC (.im a0) 1 a1)), 0⟩), ((.s 3), ⟨(.one (lC (.im a2) 1 a3)), 0⟩), ((.r (.e 0)), ⟨(.one (iC 8)), 0⟩), ((.b (.e 0) 0), ⟨(.one (lC (.im a4.1.1) 3 a4.1.2)), 0⟩), ((.b (.e 0) 1), ⟨(.one (iC a4.2.1)), 0⟩), ((.b (.e 0) 2), ⟨(.one (iC a4.2.2.1)), 0⟩), ((.b (.e 0) 3), ⟨(.one (iC a4.2.2.2.1)), 0⟩), ((.b (.e 0) 4), ⟨(.one (sC a4.2.2.2.2.1)), 0⟩), ((.b (.e 0) 5), ⟨(.one (lC a4.2.2.2.2.2.1.1 3 a4.2.2.2.2.2.1.2)), 0⟩), ((.b (.e 0) 6), ⟨(.one (lC a4.2.2.2.2.2.2.1.1 6 a4.2.2.2.2.2.2.1.2)), 0⟩), ((.b (.e 0) 7), ⟨(.one (lC a4.2.2.2.2.2.2.2.1.1 10 a4.2.2.2.2.2.2.2.1.2)), 0⟩), ((.s 9), ⟨(.one (iC a5)), 0⟩)]
def s_parse_rowx1_1_0 (a0 : Bool) (a1 : RR) (a2 : Bool) (a3 : RR) (a4 : RowT sh7) (a5 : Int) (a6 : Int) (a7 : Bool) (a8 : RR) (a9 : Int) (a10 : Int) : Go.Abs.St := [((.s 0), ⟨pE, 0⟩), ((.s 1), ⟨(.one (.fn 92 [(.ptr (.e 0) 0 0)] [])), 0⟩), ((.s 2), ⟨(.one (lC (.im a0) 1 a1)), 0⟩), ((.s 3), ⟨(.one (lC (.im a2) 1 a3)), 0⟩), ((.r (.e 0)), ⟨(.one (iC 8)), 0⟩), ((.b (.e 0) 0), ⟨(.one (lC (.im a4.1.1) 3 a4.1.2)), 0⟩), ((.b (.e 0) 1), ⟨(.one (iC a4.2.1)), 0⟩), ((.b (.e 0) 2), ⟨(.one (iC a4.2.2.1)), 0⟩), ((.b (.e 0) 3), ⟨(.one (iC a4.2.2.2.1)), 0⟩), ((.b (.e 0) 4), ⟨(.one (sC a4.2.2.2.2.1)), 0⟩), ((.b (.e 0) 5), ⟨(.one (lC a4.2.2.2.2.2.1.1 3 a4.2.2.2.2.2.1.2)), 0⟩), ((.b (.e 0) 6), ⟨(.one (lC a4.2.2.2.2.2.2.1.1 6 a4.2.2.2.2.2.2.1.2)), 0⟩), ((.b (.e 0) 7), ⟨(.one (lC a4.2.2.2.2.2.2.2.1.1 10 a4.2.2.2.2.2.2.2.1.2)), 0⟩), ((.s 9), ⟨(.one (iC a5)), 0⟩), ((.s 10), ⟨(.one (iC a6)), 0⟩), ((.s 21), ⟨(.one (lC (.im a7) 1 a8)), 0⟩), ((.s 22), ⟨(.one (iC a9)), 0⟩), ((.s 23), ⟨(.one (iC a10)), 0⟩)]
def s_parse_rowx1_2_0 (a0 : Bool) (a1 : RR) (a2 : Bool) (a3 : RR) (a4 : RowT sh7) (a5 : Int) (a6 : Int) : Go.Abs.St := [((.s 0), ⟨pE, 0⟩), ((.s 1), ⟨(.one (.fn 92 [(.ptr (.e 0) 0 0)] [])), 0⟩), ((.s 2), ⟨(.one (lC (.im a0) 1 a1)), 0⟩), ((.s 3), ⟨(.one (lC (.im a2) 1 a3)), 0⟩), ((.r (.e 0)), ⟨(.one (iC 8)), 0⟩), ((.b (.e 0) 0), ⟨(.one (lC (.im a4.1.1) 3 a4.1.2)), 0⟩), ((.b (.e 0) 1), ⟨(.one (iC a4.2.1)), 0⟩), ((.b (.e 0) 2), ⟨(.one (iC a4.2.2.1)), 0⟩), ((.b (.e 0) 3), ⟨(.one (iC a4.2.2.2.1)), 0⟩), ((.b (.e 0) 4), ⟨(.one (sC a4.2.2.2.2.1)), 0⟩), ((.b (.e 0) 5), ⟨(.one (lC a4.2.2.2.2.2.1.1 3 a4.2.2.2.2.2.1.2)), 0⟩), ((.b (.e 0) 6), ⟨(.one (lC a4.2.2.2.2.2.2.1.1 6 a4.2.2.2.2.2.2.1.2)), 0⟩), ((.b (.e 0) 7), ⟨(.one (lC a4.2.2.2.2.2.2.2.1.1 10 a4.2.2.2.2.2.2.2.1.2)), 0⟩), ((.s 9), ⟨(.one (iC a5)), 0⟩), ((.s 10), ⟨(.one (iC a6)), 0⟩)]
inductive S_parse_rowx1_0 where | s0 (a0 : Bool) (a1 : RR) (a2 : Bool) (a3 : RR) (a4 : RowT sh7) (a5 : Int)
def S_parse_rowx1_0.st : S_parse_rowx1_0 → Go.Abs.St | .s0 a0 a1 a2 a3 a4 a5 => s_parse_rowx1_0_0 a0 a1 a2 a3 a4 a5
inductive S_parse_rowx1_1 where | s0 (a0 : Bool) (a1 : RR) (a2 : Bool) (a3 : RR) (a4 : RowT sh7) (a5 : Int) (a6 : Int) (a7 : Bool) (a8 : RR) (a9 : Int) (a10 : Int)
def S_parse_rowx1_1.st : S_parse_rowx1_1 → Go.Abs.St | .s0 a0 a1 a2 a3 a4 a5 a6 a7 a8 a9 a10 => s_parse_rowx1_1_0 a0 a1 a2 a3 a4 a5 a6 a7 a8 a9 a10
inductive S_parse_rowx1_2 where | s0 (a0 : Bool) (a1 : RR) (a2 : Bool) (a3 : RR) (a4 : RowT sh7) (a5 : Int) (a6 : Int)
def S_parse_rowx1_2.st : S_parse_rowx1_2 → Go.Abs.St | .s0 a0 a1 a2 a3 a4 a5 a6 => s_parse_rowx1_2_0 a0 a1 a2 a3 a4 a5 a6
def w_parse_rowx1_0_0 (Cl : Oracle) (n : Nat) (x4 : RowT sh7) (H1 : S_parse_rowx1_1 → OR) (a0 : Bool) (a1 : RR) (a2 : Bool) (a3 : RR) (a4 : RowT sh7) (a5 : Int) : OR :=
 (tRes rs6 (Cl 18 [pE] [(bx sh7 a4)]) fun v1 => (bif (!v1.1) then (H1 (.s0 a0 a1 a2 a3 (v1.2.1) a5 (-1) a0 a1 (natI a1.length) 0)) else (some ((.one (iC a5)), [(bx sh7 (v1.2.1))]))))
def w_parse_rowx1_1_0 (Cl : Oracle) (n : Nat) (x4 : RowT sh7) (H1 : S_parse_rowx1_1 → OR) (H2 : S_parse_rowx1_2 → OR) (a0 : Bool) (a1 : RR) (a2 : Bool) (a3 : RR) (a4 : RowT sh7) (a5 : Int) (a6 : Int) (a7 : Bool) (a8 : RR) (a9 : Int) (a10 : Int) : OR :=
 (bif (decide (a10 < a9)) then (qOpt (asI a10) fun o2 => (qOpt (a8[o2]?) fun o3 => (gd (decide (1 ≤ o3.length)) (tRow [.str] (List.take 1 o3) fun v4 => (tRes rs6 (Cl 13 [pE, (.one (sC (v4.1)))] [(bx sh7 a4)]) fun v5 => (bif (v5.1) then (qOpt (asI a10) fun o6 => (qOpt (a3[o6]?) fun o7 => (gd (decide (1 ≤ o7.length)) (tRow sh3 (List.take 1 o7) fun v8 => (H2 (.s0 a0 a1 a2 a3 (v5.2.1) a5 (v8.1))))))) else (H1 (.s0 a0 a1 a2 a3 (v5.2.1) a5 a6 a7 a8 a9 (w64 (a10 + (1 : Int))))))))))) else (H2 (.s0 a0 a1 a2 a3 a4 a5 a6)))
def w_parse_rowx1_2_0 (Cl : Oracle) (n : Nat) (x4 : RowT sh7) (H0 : S_parse_rowx1_0 → OR) (a0 : Bool) (a1 : RR) (a2 : Bool) (a3 : RR) (a4 : RowT sh7) (a5 : Int) (a6 : Int) : OR :=
 (bif (decide (a6 < (0 : Int))) then (some ((.one (iC a5)), [(bx sh7 a4)])) else (tRes rs26 (Cl 90 [(.one (iC a6))] []) fun v9 => (tRes rs17 (Cl 92 [pE] [(bx sh7 a4)]) fun v10 => (tRes rs17 (Cl 91 [pE, (.agg [(iC (v9.1.1)), (sC (v9.1.2.1)), (iC (v9.1.2.2.1)), (sC (v9.1.2.2.2.1)), (iC a5), (iC (v10.1))])] [(bx sh7 (v10.2.1))]) fun v11 => (H0 (.s0 a0 a1 a2 a3 (v11.2.1) (v11.1)))))))
def l_parse_rowx1_2 (Cl : Oracle) (n : Nat) (x4 : RowT sh7) (H0 : S_parse_rowx1_0 → OR) (m : Nat) : S_parse_rowx1_2 → OR := Nat.rec (fun _ => none) (fun _ ih s => match s with | .s0 a0 a1 a2 a3 a4 a5 a6 => w_parse_rowx1_2_0 Cl n x4 H0 a0 a1 a2 a3 a4 a5 a6) m
theorem hl_parse_rowx1_2 (Cl : Oracle) (n : Nat) (x4 : RowT sh7) (m0 : Nat) : ∀ (m : Nat) (s : S_parse_rowx1_2), h82_2 Cl n [(bx sh7 x4)] m0 m s.st = l_parse_rowx1_2 Cl n x4 (fun s => h82_0 Cl n [(bx sh7 x4)] m0 s.st) m s := by
 intro m
 induction m with
 | zero => intro s; kernel_rfl
 | succ m ih =>
  intro s
  cases s with
  | s0 a0 a1 a2 a3 a4 a5 a6 =>
   have h : h82_2 Cl n [(bx sh7 x4)] m0 (m + 1) (s_parse_rowx1_2_0 a0 a1 a2 a3 a4 a5 a6) = w_parse_rowx1_2_0 Cl n x4 (fun s => h82_0 Cl n [(bx sh7 x4)] m0 s.st) a0 a1 a2 a3 a4 a5 a6 := by kernel_rfl
   exact h
def l_parse_rowx1_1 (Cl : Oracle) (n : Nat) (x4 : RowT sh7) (H0 : S_parse_rowx1_0 → OR) (m : Nat) : S_parse_rowx1_1 → OR := Nat.rec (fun _ => none) (fun _ ih s => match s with | .s0 a0 a1 a2 a3 a4 a5 a6 a7 a8 a9 a10 => w_parse_rowx1_1_0 Cl n x4 ih (l_parse_rowx1_2 Cl n x4 H0 n) a0 a1 a2 a3 a4 a5 a6 a7 a8 a9 a10) m
theorem hl_parse_rowx1_1 (Cl : Oracle) (n : Nat) (x4 : RowT sh7) (m0 : Nat) : ∀ (m : Nat) (s : S_parse_rowx1_1), h82_1 Cl n [(bx sh7 x4)] m0 m s.st = l_parse_rowx1_1 Cl n x4 (fun s => h82_0 Cl n [(bx sh7 x4)] m0 s.st) m s := by
 intro m
 induction m with
 | zero => intro s; kernel_rfl
 | succ m ih =>
  intro s
  have e1 : (fun s => h82_1 Cl n [(bx sh7 x4)] m0 m s.st) = l_parse_rowx1_1 Cl n x4 (fun s => h82_0 Cl n [(bx sh7 x4)] m0 s.st) m := funext ih
  have e2 : (fun s => h82_2 Cl n [(bx sh7 x4)] m0 n s.st) = l_parse_rowx1_2 Cl n x4 (fun s => h82_0 Cl n [(bx sh7 x4)] m0 s.st) n := funext (hl_parse_rowx1_2 Cl n x4 m0 n)
  cases s with
  | s0 a0 a1 a2 a3 a4 a5 a6 a7 a8 a9 a10 =>
   have h : h82_1 Cl n [(bx sh7 x4)] m0 (m + 1) (s_parse_rowx1_1_0 a0 a1 a2 a3 a4 a5 a6 a7 a8 a9 a10) = w_parse_rowx1_1_0 Cl n x4 (fun s => h82_1 Cl n [(bx sh7 x4)] m0 m s.st) (fun s => h82_2 Cl n [(bx sh7 x4)] m0 n s.st) a0 a1 a2 a3 a4 a5 a6 a7 a8 a9 a10 := by kernel_rfl
   rw [e2, e1] at h
   exact h
def l_parse_rowx1_0 (Cl : Oracle) (n : Nat) (x4 : RowT sh7) (m : Nat) : S_parse_rowx1_0 → OR := Nat.rec (fun _ => none) (fun _ ih s => match s with | .s0 a0 a1 a2 a3 a4 a5 => w_parse_rowx1_0_0 Cl n x4 (l_parse_rowx1_1 Cl n x4 ih n) a0 a1 a2 a3 a4 a5) m
theorem hl_parse_rowx1_0 (Cl : Oracle) (n : Nat) (x4 : RowT sh7) : ∀ (m : Nat) (s : S_parse_rowx1_0), h82_0 Cl n [(bx sh7 x4)] m s.st = l_parse_rowx1_0 Cl n x4 m s := by
 intro m
 induction m with
 | zero => intro s; kernel_rfl
 | succ m ih =>
  intro s
  have e0 : (fun s => h82_0 Cl n [(bx sh7 x4)] m s.st) = l_parse_rowx1_0 Cl n x4 m := funext ih
  have e1 : (fun s => h82_1 Cl n [(bx sh7 x4)] m n s.st) = l_parse_rowx1_1 Cl n x4 (fun s => h82_0 Cl n [(bx sh7 x4)] m s.st) n := funext (hl_parse_rowx1_1 Cl n x4 m n)
  cases s with
  | s0 a0 a1 a2 a3 a4 a5 =>
   have h : h82_0 Cl n [(bx sh7 x4)] (m + 1) (s_parse_rowx1_0_0 a0 a1 a2 a3 a4 a5) = w_parse_rowx1_0_0 Cl n x4 (fun s => h82_1 Cl n [(bx sh7 x4)] m n s.st) a0 a1 a2 a3 a4 a5 := by kernel_rfl
   rw [e1, e0] at h
   exact h
def tt_parse_rowx1 (Cl : Oracle) (n : Nat) (H0 : S_parse_rowx1_0 → OR) (x0 : Bool) (x1 : RR) (x2 : Bool) (x3 : RR) (x4 : RowT sh7) : OR :=
 (tRes rs17 (Cl 92 [pE] [(bx sh7 x4)]) fun v0 => (H0 (.s0 x0 x1 x2 x3 (v0.2.1) (v0.1))))
def t_parse_rowx1 (Cl : Oracle) (n : Nat) (x0 : Bool) (x1 : RR) (x2 : Bool) (x3 : RR) (x4 : RowT sh7) : OR := tt_parse_rowx1 Cl n (l_parse_rowx1_0 Cl n x4 n) x0 x1 x2 x3 x4
theorem pt_parse_rowx1 (Cl : Oracle) (n : Nat) (x0 : Bool) (x1 : RR) (x2 : Bool) (x3 : RR) (x4 : RowT sh7) : evBodyA an82 Cl n k82 [pE, (.one (.fn 92 [(.ptr (.e 0) 0 0)] [])), (.one (lC (.im x0) 1 x1)), (.one (lC (.im x2) 1 x3))] [(bx sh7 x4)] = t_parse_rowx1 Cl n x0 x1 x2 x3 x4 := by
 have h : evBodyA an82 Cl n k82 [pE, (.one (.fn 92 [(.ptr (.e 0) 0 0)] [])), (.one (lC (.im x0) 1 x1)), (.one (lC (.im x2) 1 x3))] [(bx sh7 x4)] = tt_parse_rowx1 Cl n (fun s => h82_0 Cl n [(bx sh7 x4)] n s.st) x0 x1 x2 x3 x4 := by kernel_rfl
 have e0 : (fun s => h82_0 Cl n [(bx sh7 x4)] n s.st) = l_parse_rowx1_0 Cl n x4 n := funext (hl_parse_rowx1_0 Cl n x4 n)
 rw [e0] at h
 exact h
def sqg__0_0 (a0 : RowT sh7) (a1 : RowT sh10) : Go.Abs.St := [((.s 0), ⟨pE, 0⟩), ((.r (.e 0)), ⟨(.one (iC 8)), 0⟩), ((.b (.e 0) 0), ⟨(.one (lC (.im a0.1.1) 3 a0.1.2)), 0⟩), ((.b (.e 0) 1), ⟨(.one (iC a0.2.1)), 0⟩), ((.b (.e 0) 2), ⟨(.one (iC a0.2.2.1)), 0⟩), ((.b (.e 0) 3), ⟨(.one (iC a0.2.2.2.1)), 0⟩), ((.b (.e 0) 4), ⟨(.one (sC a0.2.2.2.2.1)), 0⟩), ((.b (.e 0) 5), ⟨(.one (lC a0.2.2.2.2.2.1.1 3 a0.2.2.2.2.2.1.2)), 0⟩), ((.b (.e 0) 6), ⟨(.one (lC a0.2.2.2.2.2.2.1.1 6 a0.2.2.2.2.2.2.1.2)), 0⟩), ((.b (.e 0) 7), ⟨(.one (lC a0.2.2.2.2.2.2.2.1.1 10 a0.2.2.2.2.2.2.2.1.2)), 0⟩), ((.r (.l 4)), ⟨(.one (iC 6)), 1⟩), ((.b (.l 4) 0), ⟨(.one (iC a1.1)), 0⟩), ((.b (.l 4) 1), ⟨(.one (sC a1.2.1)), 0⟩), ((.b (.l 4) 2), ⟨(.one (iC a1.2.2.1)), 0⟩), ((.b (.l 4) 3), ⟨(.one (sC a1.2.2.2.1)), 0⟩), ((.b (.l 4) 4), ⟨(.one (iC a1.2.2.2.2.1)), 0⟩), ((.b (.l 4) 5), ⟨(.one (iC a1.2.2.2.2.2.1)), 0⟩), ((.s 4), ⟨(.one (.ptr (.l 4) 1 0)), 0⟩)]
inductive Sqg__0 where | s0 (a0 : RowT sh7) (a1 : RowT sh10)
def Sqg__0.st : Sqg__0 → Go.Abs.St | .s0 a0 a1 => sqg__0_0 a0 a1
def wqg__0_0 (Cl : Oracle) (n : Nat) (x0 : RowT sh7) (a0 : RowT sh7) (a1 : RowT sh10) : OR :=
 (tRes rs17 (Cl 95 [pE] [(bx sh7 a0)]) fun v8 => (tRes rs17 (Cl 91 [pE, (.agg [(iC (a1.1)), (sC (a1.2.1)), (iC (a1.2.2.1)), (sC (a1.2.2.2.1)), (iC (a1.2.2.2.2.1)), (iC (v8.1))])] [(bx sh7 (v8.2.1))]) fun v9 => (some ((.one (iC (v9.1))), [(bx sh7 (v9.2.1))]))))
def lqg__0 (Cl : Oracle) (n : Nat) (x0 : RowT sh7) (m : Nat) : Sqg__0 → OR := Nat.rec (fun _ => none) (fun _ ih s => match s with | .s0 a0 a1 => wqg__0_0 Cl n x0 a0 a1) m
theorem hlqg__0 (Cl : Oracle) (n : Nat) (x0 : RowT sh7) : ∀ (m : Nat) (s : Sqg__0), h92_0 Cl n [(bx sh7 x0)] m s.st = lqg__0 Cl n x0 m s := by
 intro m
 induction m with
 | zero => intro s; kernel_rfl
 | succ m ih =>
  intro s
  cases s with
  | s0 a0 a1 =>
   have h : h92_0 Cl n [(bx sh7 x0)] (m + 1) (sqg__0_0 a0 a1) = wqg__0_0 Cl n x0 a0 a1 := by kernel_rfl
   exact h
def ttqg_ (Cl : Oracle) (n : Nat) (H0 : Sqg__0 → OR) (x0 : RowT sh7) : OR :=
 (tRes rs6 (Cl 13 [pE, (.one (sC [110, 111, 116]))] [(bx sh7 x0)]) fun v0 => (bif (v0.1) then (tRes rs26 (Cl 90 [(.one (iC 15))] []) fun v1 => (tRes rs17 (Cl 92 [pE] [(bx sh7 (v0.2.1))]) fun v2 => (tRes rs17 (Cl 91 [pE, (.agg [(iC (v1.1.1)), (sC (v1.1.2.1)), (iC (v1.1.2.2.1)), (sC (v1.1.2.2.2.1)), (iC (v2.1)), (iC (v1.1.2.2.2.2.2.1))])] [(bx sh7 (v2.2.1))]) fun v3 => (some ((.one (iC (v3.1))), [(bx sh7 (v3.2.1))]))))) else (tRes rs26 (Cl 90 [(.one (iC 11))] []) fun v4 => (tRes rs17 (Cl 95 [pE] [(bx sh7 (v0.2.1))]) fun v5 => (tRes rs6 (Cl 13 [pE, (.one (sC [61, 61]))] [(bx sh7 (v5.2.1))]) fun v6 => (bif (v6.1) then (H0 (.s0 (v6.2.1) ((v4.1.1), (v4.1.2.1), (v4.1.2.2.1), (v4.1.2.2.2.1), (v5.1), (v4.1.2.2.2.2.2.1), ()))) else (tRes rs6 (Cl 13 [pE, (.one (sC [60]))] [(bx sh7 (v6.2.1))]) fun v7 => (bif (v7.1) then (H0 (.s0 (v7.2.1) (12, (v4.1.2.1), (v4.1.2.2.1), (v4.1.2.2.2.1), (v5.1), (v4.1.2.2.2.2.2.1), ()))) else (some ((.one (iC (v5.1))), [(bx sh7 (v7.2.1))]))))))))))
def tqg_ (Cl : Oracle) (n : Nat) (x0 : RowT sh7) : OR := ttqg_ Cl n (lqg__0 Cl n x0 n) x0
theorem ptqg_ (Cl : Oracle) (n : Nat) (x0 : RowT sh7) : evBodyA an92 Cl n k92 [pE] [(bx sh7 x0)] = tqg_ Cl n x0 := by
 have h : evBodyA an92 Cl n k92 [pE] [(bx sh7 x0)] = ttqg_ Cl n (fun s => h92_0 Cl n [(bx sh7 x0)] n s.st) x0 := by kernel_rfl
 have e0 : (fun s => h92_0 Cl n [(bx sh7 x0)] n s.st) = lqg__0 Cl n x0 n := funext (hlqg__0 Cl n x0 n)
 rw [e0] at h
 exact h
def tqr_ (Cl : Oracle) (n : Nat) (x0 : RowT sh7) : OR :=
 (tRes rs17 (Cl 82 [pE, (.one (.fn 96 [(.ptr (.e 0) 0 0)] [])), (.one (lC (.im false) 1 [[(.str [43])], [(.str [45])]])), (.one (lC (.im false) 1 [[(.int .i64 6)], [(.int .i64 7)]]))] [(bx sh7 x0)]) fun v0 => (some ((.one (iC (v0.1))), [(bx sh7 (v0.2.1))])))
theorem ptqr_ (Cl : Oracle) (n : Nat) (x0 : RowT sh7) : evBodyA an95 Cl n k95 [pE] [(bx sh7 x0)] = tqr_ Cl n x0 := by kernel_rfl
def s_parse_rowx2_0_0 (a0 : Bool) (a1 : RR) (a2 : Bool) (a3 : RR) (a4 : RowT sh7) (a5 : Int) : Go.Abs.St := [((.s 0), ⟨pE, 0⟩), ((.s 1), ⟨(.one (.fn 96 [(.ptr (.e 0) 0 0)] [])), 0⟩), ((.s 2), ⟨(.one (lC (.im a0) 1 a1)), 0⟩), ((.s 3), ⟨(.one (lC (.im a2) 1 a3)), 0⟩), ((.r (.e 0)), ⟨(.one (iC 8)), 0⟩), ((.b (.e 0) 0), ⟨(.one (lC (.im a4.1.1) 3 a4.1.2)), 0⟩), ((.b (.e 0) 1), ⟨(.one (iC a4.2.1)), 0⟩), ((.b (.e 0) 2), ⟨(.one (iC a4.2.2.1)), 0⟩), ((.b (.e 0) 3), ⟨(.one (iC a4.2.2.2.1)), 0⟩), ((.b (.e 0) 4), ⟨(.one (sC a4.2.2.2.2.1)), 0⟩), ((.b (.e 0) 5), ⟨(.one (lC a4.2.2.2.2.2.1.1 3 a4.2.2.2.2.2.1.2)), 0⟩), ((.b (.e 0) 6), ⟨(.one (lC a4.2.2.2.2.2.2.1.1 6 a4.2.2.2.2.2.2.1.2)), 0⟩), ((.b (.e 0) 7), ⟨(.one (lC a4.2.2.2.2.2.2.2.1.1 10 a4.2.2.2.2.2.2.2.1.2)), 0⟩), ((.s 9), ⟨(.one (iC a5)), 0⟩)]
def s_parse_rowx2_1_0 (a0 : Bool) (a1 : RR) (a2 : Bool) (a3 : RR) (a4 : RowT sh7) (a5 : Int) (a6 : Int) (a7 : Bool) (a8 : RR) (a9 : Int) (a10 : Int) : Go.Abs.St := [((.s 0), ⟨pE, 0⟩), ((.s 1), ⟨(.one (.fn 96 [(.ptr (.e 0) 0 0)] [])), 0⟩), ((.s 2), ⟨(.one (lC (.im a0) 1 a1)), 0⟩), ((.s 3), ⟨(.one (lC (.im a2) 1 a3)), 0⟩), ((.r (.e 0)), ⟨(.one (iC 8)), 0⟩), ((.b (.e 0) 0), ⟨(.one (lC (.im a4.1.1) 3 a4.1.2)), 0⟩), ((.b (.e 0) 1), ⟨(.one (iC a4.2.1)), 0⟩), ((.b (.e 0) 2), ⟨(.one (iC a4.2.2.1)), 0⟩), ((.b (.e 0) 3), ⟨(.one (iC a4.2.2.2.1)), 0⟩), ((.b (.e 0) 4), ⟨(.one (sC a4.2.2.2.2.1)), 0⟩), ((.b (.e 0) 5), ⟨(.one (lC a4.2.2.2.2.2.1.1 3 a4.2.2.2.2.2.1.2)), 0⟩), ((.b (.e 0) 6), ⟨(.one (lC a4.2.2.2.2.2.2.1.1 6 a4.2.2.2.2.2.2.1.2)), 0⟩), ((.b (.e 0) 7), ⟨(.one (lC a4.2.2.2.2.2.2.2.1.1 10 a4.2.2.2.2.2.2.2.1.2)), 0⟩), ((.s 9), ⟨(.one (iC a5)), 0⟩), ((.s 10), ⟨(.one (iC a6)), 0⟩), ((.s 21), ⟨(.one (lC (.im a7) 1 a8)), 0⟩), ((.s 22), ⟨(.one (iC a9)), 0⟩), ((.s 23), ⟨(.one (iC a10)), 0⟩)]
def s_parse_rowx2_2_0 (a0 : Bool) (a1 : RR) (a2 : Bool) (a3 : RR) (a4 : RowT sh7) (a5 : Int) (a6 : Int) : Go.Abs.St := [((.s 0), ⟨pE, 0⟩), ((.s 1), ⟨(.one (.fn 96 [(.ptr (.e 0) 0 0)] [])), 0⟩), ((.s 2), ⟨(.one (lC (.im a0) 1 a1)), 0⟩), ((.s 3), ⟨(.one (lC (.im a2) 1 a3)), 0⟩), ((.r (.e 0)), ⟨(.one (iC 8)), 0⟩), ((.b (.e 0) 0), ⟨(.one (lC (.im a4.1.1) 3 a4.1.2)), 0⟩), ((.b (.e 0) 1), ⟨(.one (iC a4.2.1)), 0⟩), ((.b (.e 0) 2), ⟨(.one (iC a4.2.2.1)), 0⟩), ((.b (.e 0) 3), ⟨(.one (iC a4.2.2.2.1)), 0⟩), ((.b (.e 0) 4), ⟨(.one (sC a4.2.2.2.2.1)), 0⟩), ((.b (.e 0) 5), ⟨(.one (lC a4.2.2.2.2.2.1.1 3 a4.2.2.2.2.2.1.2)), 0⟩), ((.b (.e 0) 6), ⟨(.one (lC a4.2.2.2.2.2.2.1.1 6 a4.2.2.2.2.2.2.1.2)), 0⟩), ((.b (.e 0) 7), ⟨(.one (lC a4.2.2.2.2.2.2.2.1.1 10 a4.2.2.2.2.2.2.2.1.2)), 0⟩), ((.s 9), ⟨(.one (iC a5)), 0⟩), ((.s 10), ⟨(.one (iC a6)), 0⟩)]
inductive S_parse_rowx2_0 where | s0 (a0 : Bool) (a1 : RR) (a2 : Bool) (a3 : RR) (a4 : RowT sh7) (a5 : Int)
def S_parse_rowx2_0.st : S_parse_rowx2_0 → Go.Abs.St | .s0 a0 a1 a2 a3 a4 a5 => s_parse_rowx2_0_0 a0 a1 a2 a3 a4 a5
inductive S_parse_rowx2_1 where | s0 (a0 : Bool) (a1 : RR) (a2 : Bool) (a3 : RR) (a4 : RowT sh7) (a5 : Int) (a6 : Int) (a7 : Bool) (a8 : RR) (a9 : Int) (a10 : Int)
def S_parse_rowx2_1.st : S_parse_rowx2_1 → Go.Abs.St | .s0 a0 a1 a2 a3 a4 a5 a6 a7 a8 a9 a10 => s_parse_rowx2_1_0 a0 a1 a2 a3 a4 a5 a6 a7 a8 a9 a10
inductive S_parse_rowx2_2 where | s0 (a0 : Bool) (a1 : RR) (a2 : Bool) (a3 : RR) (a4 : RowT sh7) (a5 : Int) (a6 : Int)
def S_parse_rowx2_2.st : S_parse_rowx2_2 → Go.Abs.St | .s0 a0 a1 a2 a3 a4 a5 a6 => s_parse_rowx2_2_0 a0 a1 a2 a3 a4 a5 a6
def w_parse_rowx2_0_0 (Cl : Oracle) (n : Nat) (x4 : RowT sh7) (H1 : S_parse_rowx2_1 → OR) (a0 : Bool) (a1 : RR) (a2 : Bool) (a3 : RR) (a4 : RowT sh7) (a5 : Int) : OR :=
 (tRes rs6 (Cl 18 [pE] [(bx sh7 a4)]) fun v1 => (bif (!v1.1) then (H1 (.s0 a0 a1 a2 a3 (v1.2.1) a5 (-1) a0 a1 (natI a1.length) 0)) else (some ((.one (iC a5)), [(bx sh7 (v1.2.1))]))))
def w_parse_rowx2_1_0 (Cl : Oracle) (n : Nat) (x4 : RowT sh7) (H1 : S_parse_rowx2_1 → OR) (H2 : S_parse_rowx2_2 → OR) (a0 : Bool) (a1 : RR) (a2 : Bool) (a3 : RR) (a4 : RowT sh7) (a5 : Int) (a6 : Int) (a7 : Bool) (a8 : RR) (a9 : Int) (a10 : Int) : OR :=
 (bif (decide (a10 < a9)) then (qOpt (asI a10) fun o2 => (qOpt (a8[o2]?) fun o3 => (gd (decide (1 ≤ o3.length)) (tRow [.str] (List.take 1 o3) fun v4 => (tRes rs6 (Cl 13 [pE, (.one (sC (v4.1)))] [(bx sh7 a4)]) fun v5 => (bif (v5.1) then (qOpt (asI a10) fun o6 => (qOpt (a3[o6]?) fun o7 => (gd (decide (1 ≤ o7.length)) (tRow sh3 (List.take 1 o7) fun v8 => (H2 (.s0 a0 a1 a2 a3 (v5.2.1) a5 (v8.1))))))) else (H1 (.s0 a0 a1 a2 a3 (v5.2.1) a5 a6 a7 a8 a9 (w64 (a10 + (1 : Int))))))))))) else (H2 (.s0 a0 a1 a2 a3 a4 a5 a6)))
def w_parse_rowx2_2_0 (Cl : Oracle) (n : Nat) (x4 : RowT sh7) (H0 : S_parse_rowx2_0 → OR) (a0 : Bool) (a1 : RR) (a2 : Bool) (a3 : RR) (a4 : RowT sh7) (a5 : Int) (a6 : Int) : OR :=
 (bif (decide (a6 < (0 : Int))) then (some ((.one (iC a5)), [(bx sh7 a4)])) else (tRes rs26 (Cl 90 [(.one (iC a6))] []) fun v9 => (tRes rs17 (Cl 96 [pE] [(bx sh7 a4)]) fun v10 => (tRes rs17 (Cl 91 [pE, (.agg [(iC (v9.1.1)), (sC (v9.1.2.1)), (iC (v9.1.2.2.1)), (sC (v9.1.2.2.2.1)), (iC a5), (iC (v10.1))])] [(bx sh7 (v10.2.1))]) fun v11 => (H0 (.s0 a0 a1 a2 a3 (v11.2.1) (v11.1)))))))
def l_parse_rowx2_2 (Cl : Oracle) (n : Nat) (x4 : RowT sh7) (H0 : S_parse_rowx2_0 → OR) (m : Nat) : S_parse_rowx2_2 → OR := Nat.rec (fun _ => none) (fun _ ih s => match s with | .s0 a0 a1 a2 a3 a4 a5 a6 => w_parse_rowx2_2_0 Cl n x4 H0 a0 a1 a2 a3 a4 a5 a6) m
theorem hl_parse_rowx2_2 (Cl : Oracle) (n : Nat) (x4 : RowT sh7) (m0 : Nat) : ∀ (m : Nat) (s : S_parse_rowx2_2), h82_2 Cl n [(bx sh7 x4)] m0 m s.st = l_parse_rowx2_2 Cl n x4 (fun s => h82_0 Cl n [(bx sh7 x4)] m0 s.st) m s := by
 intro m
 induction m with
 | zero => intro s; kernel_rfl
 | succ m ih =>
  intro s
  cases s with
  | s0 a0 a1 a2 a3 a4 a5 a6 =>
   have h : h82_2 Cl n [(bx sh7 x4)] m0 (m + 1) (s_parse_rowx2_2_0 a0 a1 a2 a3 a4 a5 a6) = w_parse_rowx2_2_0 Cl n x4 (fun s => h82_0 Cl n [(bx sh7 x4)] m0 s.st) a0 a1 a2 a3 a4 a5 a6 := by kernel_rfl
   exact h
def l_parse_rowx2_1 (Cl : Oracle) (n : Nat) (x4 : RowT sh7) (H0 : S_parse_rowx2_0 → OR) (m : Nat) : S_parse_rowx2_1 → OR := Nat.rec (fun _ => none) (fun _ ih s => match s with | .s0 a0 a1 a2 a3 a4 a5 a6 a7 a8 a9 a10 => w_parse_rowx2_1_0 Cl n x4 ih (l_parse_rowx2_2 Cl n x4 H0 n) a0 a1 a2 a3 a4 a5 a6 a7 a8 a9 a10) m
theorem hl_parse_rowx2_1 (Cl : Oracle) (n : Nat) (x4 : RowT sh7) (m0 : Nat) : ∀ (m : Nat) (s : S_parse_rowx2_1), h82_1 Cl n [(bx sh7 x4)] m0 m s.st = l_parse_rowx2_1 Cl n x4 (fun s => h82_0 Cl n [(bx sh7 x4)] m0 s.st) m s := by
 intro m
 induction m with
 | zero => intro s; kernel_rfl
 | succ m ih =>
  intro s
  have e1 : (fun s => h82_1 Cl n [(bx sh7 x4)] m0 m s.st) = l_parse_rowx2_1 Cl n x4 (fun s => h82_0 Cl n [(bx sh7 x4)] m0 s.st) m := funext ih
  have e2 : (fun s => h82_2 Cl n [(bx sh7 x4)] m0 n s.st) = l_parse_rowx2_2 Cl n x4 (fun s => h82_0 Cl n [(bx sh7 x4)] m0 s.st) n := funext (hl_parse_rowx2_2 Cl n x4 m0 n)
  cases s with
  | s0 a0 a1 a2 a3 a4 a5 a6 a7 a8 a9 a10 =>
   have h : h82_1 Cl n [(bx sh7 x4)] m0 (m + 1) (s_parse_rowx2_1_0 a0 a1 a2 a3 a4 a5 a6 a7 a8 a9 a10) = w_parse_rowx2_1_0 Cl n x4 (fun s => h82_1 Cl n [(bx sh7 x4)] m0 m s.st) (fun s => h82_2 Cl n [(bx sh7 x4)] m0 n s.st) a0 a1 a2 a3 a4 a5 a6 a7 a8 a9 a10 := by kernel_rfl
   rw [e2, e1] at h
   exact h
def l_parse_rowx2_0 (Cl : Oracle) (n : Nat) (x4 : RowT sh7) (m : Nat) : S_parse_rowx2_0 → OR := Nat.rec (fun _ => none) (fun _ ih s => match s with | .s0 a0 a1 a2 a3 a4 a5 => w_parse_rowx2_0_0 Cl n x4 (l_parse_rowx2_1 Cl n x4 ih n) a0 a1 a2 a3 a4 a5) m
theorem hl_parse_rowx2_0 (Cl : Oracle) (n : Nat) (x4 : RowT sh7) : ∀ (m : Nat) (s : S_parse_rowx2_0), h82_0 Cl n [(bx sh7 x4)] m s.st = l_parse_rowx2_0 Cl n x4 m s := by
 intro m
 induction m with
 | zero => intro s; kernel_rfl
 | succ m ih =>
  intro s
  have e0 : (fun s => h82_0 Cl n [(bx sh7 x4)] m s.st) = l_parse_rowx2_0 Cl n x4 m := funext ih
  have e1 : (fun s => h82_1 Cl n [(bx sh7 x4)] m n s.st) = l_parse_rowx2_1 Cl n x4 (fun s => h82_0 Cl n [(bx sh7 x4)] m s.st) n := funext (hl_parse_rowx2_1 Cl n x4 m n)
  cases s with
  | s0 a0 a1 a2 a3 a4 a5 =>
   have h : h82_0 Cl n [(bx sh7 x4)] (m + 1) (s_parse_rowx2_0_0 a0 a1 a2 a3 a4 a5) = w_parse_rowx2_0_0 Cl n x4 (fun s => h82_1 Cl n [(bx sh7 x4)] m n s.st) a0 a1 a2 a3 a4 a5 := by kernel_rfl
   rw [e1, e0] at h
   exact h
def tt_parse_rowx2 (Cl : Oracle) (n : Nat) (H0 : S_parse_rowx2_0 → OR) (x0 : Bool) (x1 : RR) (x2 : Bool) (x3 : RR) (x4 : RowT sh7) : OR :=
 (tRes rs17 (Cl 96 [pE] [(bx sh7 x4)]) fun v0 => (H0 (.s0 x0 x1 x2 x3 (v0.2.1) (v0.1))))
def t_parse_rowx2 (Cl : Oracle) (n : Nat) (x0 : Bool) (x1 : RR) (x2 : Bool) (x3 : RR) (x4 : RowT sh7) : OR := tt_parse_rowx2 Cl n (l_parse_rowx2_0 Cl n x4 n) x0 x1 x2 x3 x4
theorem pt_parse_rowx2 (Cl : Oracle) (n : Nat) (x0 : Bool) (x1 : RR) (x2 : Bool) (x3 : RR) (x4 : RowT sh7) : evBodyA an82 Cl n k82 [pE, (.one (.fn 96 [(.ptr (.e 0) 0 0)] [])), (.one (lC (.im x0) 1 x1)), (.one (lC (.im x2) 1 x3))] [(bx sh7 x4)] = t_parse_rowx2 Cl n x0 x1 x2 x3 x4 := by
 have h : evBodyA an82 Cl n k82 [pE, (.one (.fn 96 [(.ptr (.e 0) 0 0)] [])), (.one (lC (.im x0) 1 x1)), (.one (lC (.im x2) 1 x3))] [(bx sh7 x4)] = tt_parse_rowx2 Cl n (fun s => h82_0 Cl n [(bx sh7 x4)] n s.st) x0 x1 x2 x3 x4 := by kernel_rfl
 have e0 : (fun s => h82_0 Cl n [(bx sh7 x4)] n s.st) = l_parse_rowx2_0 Cl n x4 n := funext (hl_parse_rowx2_0 Cl n x4 n)
 rw [e0] at h
 exact h
def tqo_ (Cl : Oracle) (n : Nat) (x0 : RowT sh7) : OR :=
 (tRes rs17 (Cl 82 [pE, (.one (.fn 97 [(.ptr (.e 0) 0 0)] [])), (.one (lC (.im false) 1 [[(.str [42])], [(.str [47])], [(.str [109, 111, 100])]])), (.one (lC (.im false) 1 [[(.int .i64 8)], [(.int .i64 9)], [(.int .i64 10)]]))] [(bx sh7 x0)]) fun v0 => (some ((.one (iC (v0.1))), [(bx sh7 (v0.2.1))])))
theorem ptqo_ (Cl : Oracle) (n : Nat) (x0 : RowT sh7) : evBodyA an96 Cl n k96 [pE] [(bx sh7 x0)] = tqo_ Cl n x0 := by kernel_rfl
def s_parse_rowx3_0_0 (a0 : Bool) (a1 : RR) (a2 : Bool) (a3 : RR) (a4 : RowT sh7) (a5 : Int) : Go.Abs.St := [((.s 0), ⟨pE, 0⟩), ((.s 1), ⟨(.one (.fn 97 [(.ptr (.e 0) 0 0)] [])), 0⟩), ((.s 2), ⟨(.one (lC (.im a0) 1 a1)), 0⟩), ((.s 3), ⟨(.one (lC (.im a2) 1 a3)), 0⟩), ((.r (.e 0)), ⟨(.one (iC 8)), 0⟩), ((.b (.e 0) 0), ⟨(.one (lC (.im a4.1.1) 3 a4.1.2)), 0⟩), ((.b (.e 0) 1), ⟨(.one (iC a4.2.1)), 0⟩), ((.b (.e 0) 2), ⟨(.one (iC a4.2.2.1)), 0⟩), ((.b (.e 0) 3), ⟨(.one (iC a4.2.2.2.1)), 0⟩), ((.b (.e 0) 4), ⟨(.one (sC a4.2.2.2.2.1)), 0⟩), ((.b (.e 0) 5), ⟨(.one (lC a4.2.2.2.2.2.1.1 3 a4.2.2.2.2.2.1.2)), 0⟩), ((.b (.e 0) 6), ⟨(.one (lC a4.2.2.2.2.2.2.1.1 6 a4.2.2.2.2.2.2.1.2)), 0⟩), ((.b (.e 0) 7), ⟨(.one (lC a4.2.2.2.2.2.2.2.1.1 10 a4.2.2.2.2.2.2.2.1.2)), 0⟩), ((.s 9), ⟨(.one (iC a5)), 0⟩)]
def s_parse_rowx3_1_0 (a0 : Bool) (a1 : RR) (a2 : Bool) (a3 : RR) (a4 : RowT sh7) (a5 : Int) (a6 : Int) (a7 : Bool) (a8 : RR) (a9 : Int) (a10 : Int) : Go.Abs.St := [((.s 0), ⟨pE, 0⟩), ((.s 1), ⟨(.one (.fn 97 [(.ptr (.e 0) 0 0)] [])), 0⟩), ((.s 2), ⟨(.one (lC (.im a0) 1 a1)), 0⟩), ((.s 3), ⟨(.one (lC (.im a2) 1 a3)), 0⟩), ((.r (.e 0)), ⟨(.one (iC 8)), 0⟩), ((.b (.e 0) 0), ⟨(.one (lC (.im a4.1.1) 3 a4.1.2)), 0⟩), ((.b (.e 0) 1), ⟨(.one (iC a4.2.1)), 0⟩), ((.b (.e 0) 2), ⟨(.one (iC a4.2.2.1)), 0⟩), ((.b (.e 0) 3), ⟨(.one (iC a4.2.2.2.1)), 0⟩), ((.b (.e 0) 4), ⟨(.one (sC a4.2.2.2.2.1)), 0⟩), ((.b (.e 0) 5), ⟨(.one (lC a4.2.2.2.2.2.1.1 3 a4.2.2.2.2.2.1.2)), 0⟩), ((.b (.e 0) 6), ⟨(.one (lC a4.2.2.2.2.2.2.1.1 6 a4.2.2.2.2.2.2.1.2)), 0⟩), ((.b (.e 0) 7), ⟨(.one (lC a4.2.2.2.2.2.2.2.1.1 10 a4.2.2.2.2.2.2.2.1.2)), 0⟩), ((.s 9), ⟨(.one (iC a5)), 0⟩), ((.s 10), ⟨(.one (iC a6)), 0⟩), ((.s 21), ⟨(.one (lC (.im a7) 1 a8)), 0⟩), ((.s 22), ⟨(.one (iC a9)), 0⟩), ((.s 23), ⟨(.one (iC a10)), 0⟩)]
def s_parse_rowx3_2_0 (a0 : Bool) (a1 : RR) (a2 : Bool) (a3 : RR) (a4 : RowT sh7) (a5 : Int) (a6 : Int) : Go.Abs.St := [((.s 0), ⟨pE, 0⟩), ((.s 1), ⟨(.one (.fn 97 [(.ptr (.e 0) 0 0)] [])), 0⟩), ((.s 2), ⟨(.one (lC (.im a0) 1 a1)), 0⟩), ((.s 3), ⟨(.one (lC (.im a2) 1 a3)), 0⟩), ((.r (.e 0)), ⟨(.one (iC 8)), 0⟩), ((.b (.e 0) 0), ⟨(.one (lC (.im a4.1.1) 3 a4.1.2)), 0⟩), ((.b (.e 0) 1), ⟨(.one (iC a4.2.1)), 0⟩), ((.b (.e 0) 2), ⟨(.one (iC a4.2.2.1)), 0⟩), ((.b (.e 0) 3), ⟨(.one (iC a4.2.2.2.1)), 0⟩), ((.b (.e 0) 4), ⟨(.one (sC a4.2.2.2.2.1)), 0⟩), ((.b (.e 0) 5), ⟨(.one (lC a4.2.2.2.2.2.1.1 3 a4.2.2.2.2.2.1.2)), 0⟩), ((.b (.e 0) 6), ⟨(.one (lC a4.2.2.2.2.2.2.1.1 6 a4.2.2.2.2.2.2.1.2)), 0⟩), ((.b (.e 0) 7), ⟨(.one (lC a4.2.2.2.2.2.2.2.1.1 10 a4.2.2.2.2.2.2.2.1.2)), 0⟩), ((.s 9), ⟨(.one (iC a5)), 0⟩), ((.s 10), ⟨(.one (iC a6)), 0⟩)]
inductive S_parse_rowx3_0 where | s0 (a0 : Bool) (a1 : RR) (a2 : Bool) (a3 : RR) (a4 : RowT sh7) (a5 : Int)
def S_parse_rowx3_0.st : S_parse_rowx3_0 → Go.Abs.St | .s0 a0 a1 a2 a3 a4 a5 => s_parse_rowx3_0_0 a0 a1 a2 a3 a4 a5
inductive S_parse_rowx3_1 where | s0 (a0 : Bool) (a1 : RR) (a2 : Bool) (a3 : RR) (a4 : RowT sh7) (a5 : Int) (a6 : Int) (a7 : Bool) (a8 : RR) (a9 : Int) (a10 : Int)
def S_parse_rowx3_1.st : S_parse_rowx3_1 → Go.Abs.St | .s0 a0 a1 a2 a3 a4 a5 a6 a7 a8 a9 a10 => s_parse_rowx3_1_0 a0 a1 a2 a3 a4 a5 a6 a7 a8 a9 a10
inductive S_parse_rowx3_2 where | s0 (a0 : Bool) (a1 : RR) (a2 : Bool) (a3 : RR) (a4 : RowT sh7) (a5 : Int) (a6 : Int)
def S_parse_rowx3_2.st : S_parse_rowx3_2 → Go.Abs.St | .s0 a0 a1 a2 a3 a4 a5 a6 => s_parse_rowx3_2_0 a0 a1 a2 a3 a4 a5 a6
def w_parse_rowx3_0_0 (Cl : Oracle) (n : Nat) (x4 : RowT sh7) (H1 : S_parse_rowx3_1 → OR) (a0 : Bool) (a1 : RR) (a2 : Bool) (a3 : RR) (a4 : RowT sh7) (a5 : Int) : OR :=
 (tRes rs6 (Cl 18 [pE] [(bx sh7 a4)]) fun v1 => (bif (!v1.1) then (H1 (.s0 a0 a1 a2 a3 (v1.2.1) a5 (-1) a0 a1 (natI a1.length) 0)) else (some ((.one (iC a5)), [(bx sh7 (v1.2.1))]))))
def w_parse_rowx3_1_0 (Cl : Oracle) (n : Nat) (x4 : RowT sh7) (H1 : S_parse_rowx3_1 → OR) (H2 : S_parse_rowx3_2 → OR) (a0 : Bool) (a1 : RR) (a2 : Bool) (a3 : RR) (a4 : RowT sh7) (a5 : Int) (a6 : Int) (a7 : Bool) (a8 : RR) (a9 : Int) (a10 : Int) : OR :=
 (bif (decide (a10 < a9)) then (qOpt (asI a10) fun o2 => (qOpt (a8[o2]?) fun o3 => (gd (decide (1 ≤ o3.length)) (tRow [.str] (List.take 1 o3) fun v4 => (tRes rs6 (Cl 13 [pE, (.one (sC (v4.1)))] [(bx sh7 a4)]) fun v5 => (bif (v5.1) then (qOpt (asI a10) fun o6 => (qOpt (a3[o6]?) fun o7 => (gd (decide (1 ≤ o7.length)) (tRow sh3 (List.take 1 o7) fun v8 => (H2 (.s0 a0 a1 a2 a3 (v5.2.1) a5 (v8.1))))))) else (H1 (.s0 a0 a1 a2 a3 (v5.2.1) a5 a6 a7 a8 a9 (w64 (a10 + (1 : Int))))))))))) else (H2 (.s0 a0 a1 a2 a3 a4 a5 a6)))
def w_parse_rowx3_2_0 (Cl : Oracle) (n : Nat) (x4 : RowT sh7) (H0 : S_parse_rowx3_0 → OR) (a0 : Bool) (a1 : RR) (a2 : Bool) (a3 : RR) (a4 : RowT sh7) (a5 : Int) (a6 : Int) : OR :=
 (bif (decide (a6 < (0 : Int))) then (some ((.one (iC a5)), [(bx sh7 a4)])) else (tRes rs26 (Cl 90 [(.one (iC a6))] []) fun v9 => (tRes rs17 (Cl 97 [pE] [(bx sh7 a4)]) fun v10 => (tRes rs17 (Cl 91 [pE, (.agg [(iC (v9.1.1)), (sC (v9.1.2.1)), (iC (v9.1.2.2.1)), (sC (v9.1.2.2.2.1)), (iC a5), (iC (v10.1))])] [(bx sh7 (v10.2.1))]) fun v11 => (H0 (.s0 a0 a1 a2 a3 (v11.2.1) (v11.1)))))))
def l_parse_rowx3_2 (Cl : Oracle) (n : Nat) (x4 : RowT sh7) (H0 : S_parse_rowx3_0 → OR) (m : Nat) : S_parse_rowx3_2 → OR := Nat.rec (fun _ => none) (fun _ ih s => match s with | .s0 a0 a1 a2 a3 a4 a5 a6 => w_parse_rowx3_2_0 Cl n x4 H0 a0 a1 a2 a3 a4 a5 a6) m
theorem hl_parse_rowx3_2 (Cl : Oracle) (n : Nat) (x4 : RowT sh7) (m0 : Nat) : ∀ (m : Nat) (s : S_parse_rowx3_2), h82_2 Cl n [(bx sh7 x4)] m0 m s.st = l_parse_rowx3_2 Cl n x4 (fun s => h82_0 Cl n [(bx sh7 x4)] m0 s.st) m s := by
 intro m
 induction m with
 | zero => intro s; kernel_rfl
 | succ m ih =>
  intro s
  cases s with
  | s0 a0 a1 a2 a3 a4 a5 a6 =>
   have h : h82_2 Cl n [(bx sh7 x4)] m0 (m + 1) (s_parse_rowx3_2_0 a0 a1 a2 a3 a4 a5 a6) = w_parse_rowx3_2_0 Cl n x4 (fun s => h82_0 Cl n [(bx sh7 x4)] m0 s.st) a0 a1 a2 a3 a4 a5 a6 := by kernel_rfl
   exact h
def l_parse_rowx3_1 (Cl : Oracle) (n : Nat) (x4 : RowT sh7) (H0 : S_parse_rowx3_0 → OR) (m : Nat) : S_parse_rowx3_1 → OR := Nat.rec (fun _ => none) (fun _ ih s => match s with | .s0 a0 a1 a2 a3 a4 a5 a6 a7 a8 a9 a10 => w_parse_rowx3_1_0 Cl n x4 ih (l_parse_rowx3_2 Cl n x4 H0 n) a0 a1 a2 a3 a4 a5 a6 a7 a8 a9 a10) m
theorem hl_parse_rowx3_1 (Cl : Oracle) (n : Nat) (x4 : RowT sh7) (m0 : Nat) : ∀ (m : Nat) (s : S_parse_rowx3_1), h82_1 Cl n [(bx sh7 x4)] m0 m s.st = l_parse_rowx3_1 Cl n x4 (fun s => h82_0 Cl n [(bx sh7 x4)] m0 s.st) m s := by
 intro m
 induction m with
 | zero => intro s; kernel_rfl
 | succ m ih =>
  intro s
  have e1 : (fun s => h82_1 Cl n [(bx sh7 x4)] m0 m s.st) = l_parse_rowx3_1 Cl n x4 (fun s => h82_0 Cl n [(bx sh7 x4)] m0 s.st) m := funext ih
  have e2 : (fun s => h82_2 Cl n [(bx sh7 x4)] m0 n s.st) = l_parse_rowx3_2 Cl n x4 (fun s => h82_0 Cl n [(bx sh7 x4)] m0 s.st) n := funext (hl_parse_rowx3_2 Cl n x4 m0 n)
  cases s with
  | s0 a0 a1 a2 a3 a4 a5 a6 a7 a8 a9 a10 =>
   have h : h82_1 Cl n [(bx sh7 x4)] m0 (m + 1) (s_parse_rowx3_1_0 a0 a1 a2 a3 a4 a5 a6 a7 a8 a9 a10) = w_parse_rowx3_1_0 Cl n x4 (fun s => h82_1 Cl n [(bx sh7 x4)] m0 m s.st) (fun s => h82_2 Cl n [(bx sh7 x4)] m0 n s.st) a0 a1 a2 a3 a4 a5 a6 a7 a8 a9 a10 := by kernel_rfl
   rw [e2, e1] at h
   exact h
def l_parse_rowx3_0 (Cl : Oracle) (n : Nat) (x4 : RowT sh7) (m : Nat) : S_parse_rowx3_0 → OR := Nat.rec (fun _ => none) (fun _ ih s => match s with | .s0 a0 a1 a2 a3 a4 a5 => w_parse_rowx3_0_0 Cl n x4 (l_parse_rowx3_1 Cl n x4 ih n) a0 a1 a2 a3 a4 a5) m
theorem hl_parse_rowx3_0 (Cl : Oracle) (n : Nat) (x4 : RowT sh7) : ∀ (m : Nat) (s : S_parse_rowx3_0), h82_0 Cl n [(bx sh7 x4)] m s.st = l_parse_rowx3_0 Cl n x4 m s := by
 intro m
 induction m with
 | zero => intro s; kernel_rfl
 | succ m ih =>
  intro s
  have e0 : (fun s => h82_0 Cl n [(bx sh7 x4)] m s.st) = l_parse_rowx3_0 Cl n x4 m := funext ih
  have e1 : (fun s => h82_1 Cl n [(bx sh7 x4)] m n s.st) = l_parse_rowx3_1 Cl n x4 (fun s => h82_0 Cl n [(bx sh7 x4)] m s.st) n := funext (hl_parse_rowx3_1 Cl n x4 m n)
  cases s with
  | s0 a0 a1 a2 a3 a4 a5 =>
   have h : h82_0 Cl n [(bx sh7 x4)] (m + 1) (s_parse_rowx3_0_0 a0 a1 a2 a3 a4 a5) = w_parse_rowx3_0_0 Cl n x4 (fun s => h82_1 Cl n [(bx sh7 x4)] m n s.st) a0 a1 a2 a3 a4 a5 := by kernel_rfl
   rw [e1, e0] at h
   exact h
def tt_parse_rowx3 (Cl : Oracle) (n : Nat) (H0 : S_parse_rowx3_0 → OR) (x0 : Bool) (x1 : RR) (x2 : Bool) (x3 : RR) (x4 : RowT sh7) : OR :=
 (tRes rs17 (Cl 97 [pE] [(bx sh7 x4)]) fun v0 => (H0 (.s0 x0 x1 x2 x3 (v0.2.1) (v0.1))))
def t_parse_rowx3 (Cl : Oracle) (n : Nat) (x0 : Bool) (x1 : RR) (x2 : Bool) (x3 : RR) (x4 : RowT sh7) : OR := tt_parse_rowx3 Cl n (l_parse_rowx3_0 Cl n x4 n) x0 x1 x2 x3 x4
theorem pt_parse_rowx3 (Cl : Oracle) (n : Nat) (x0 : Bool) (x1 : RR) (x2 : Bool) (x3 : RR) (x4 : RowT sh7) : evBodyA an82 Cl n k82 [pE, (.one (.fn 97 [(.ptr (.e 0) 0 0)] [])), (.one (lC (.im x0) 1 x1)), (.one (lC (.im x2) 1 x3))] [(bx sh7 x4)] = t_parse_rowx3 Cl n x0 x1 x2 x3 x4 := by
 have h : evBodyA an82 Cl n k82 [pE, (.one (.fn 97 [(.ptr (.e 0) 0 0)] [])), (.one (lC (.im x0) 1 x1)), (.one (lC (.im x2) 1 x3))] [(bx sh7 x4)] = tt_parse_rowx3 Cl n (fun s => h82_0 Cl n [(bx sh7 x4)] n s.st) x0 x1 x2 x3 x4 := by kernel_rfl
 have e0 : (fun s => h82_0 Cl n [(bx sh7 x4)] n s.st) = l_parse_rowx3_0 Cl n x4 n := funext (hl_parse_rowx3_0 Cl n x4 n)
 rw [e0] at h
 exact h
def sqa__0_0 (a0 : RowT sh7) : Go.Abs.St := [((.s 0), ⟨pE, 0⟩), ((.r (.e 0)), ⟨(.one (iC 8)), 0⟩), ((.b (.e 0) 0), ⟨(.one (lC (.im a0.1.1) 3 a0.1.2)), 0⟩), ((.b (.e 0) 1), ⟨(.one (iC a0.2.1)), 0⟩), ((.b (.e 0) 2), ⟨(.one (iC a0.2.2.1)), 0⟩), ((.b (.e 0) 3), ⟨(.one (iC a0.2.2.2.1)), 0⟩), ((.b (.e 0) 4), ⟨(.one (sC a0.2.2.2.2.1)), 0⟩), ((.b (.e 0) 5), ⟨(.one (lC a0.2.2.2.2.2.1.1 3 a0.2.2.2.2.2.1.2)), 0⟩), ((.b (.e 0) 6), ⟨(.one (lC a0.2.2.2.2.2.2.1.1 6 a0.2.2.2.2.2.2.1.2)), 0⟩), ((.b (.e 0) 7), ⟨(.one (lC a0.2.2.2.2.2.2.2.1.1 10 a0.2.2.2.2.2.2.2.1.2)), 0⟩)]
inductive Sqa__0 where | s0 (a0 : RowT sh7)
def Sqa__0.st : Sqa__0 → Go.Abs.St | .s0 a0 => sqa__0_0 a0
def wqa__0_0 (Cl : Oracle) (n : Nat) (x0 : RowT sh7) (a0 : RowT sh7) : OR :=
 (tRes rs10 (Cl 17 [pE] [(bx sh7 a0)]) fun v57 => (some ((.one (iC (-1))), [(bx sh7 (v57.2.1))])))
def lqa__0 (Cl : Oracle) (n : Nat) (x0 : RowT sh7) (m : Nat) : Sqa__0 → OR := Nat.rec (fun _ => none) (fun _ ih s => match s with | .s0 a0 => wqa__0_0 Cl n x0 a0) m
theorem hlqa__0 (Cl : Oracle) (n : Nat) (x0 : RowT sh7) : ∀ (m : Nat) (s : Sqa__0), h97_0 Cl n [(bx sh7 x0)] m s.st = lqa__0 Cl n x0 m s := by
 intro m
 induction m with
 | zero => intro s; kernel_rfl
 | succ m ih =>
  intro s
  cases s with
  | s0 a0 =>
   have h : h97_0 Cl n [(bx sh7 x0)] (m + 1) (sqa__0_0 a0) = wqa__0_0 Cl n x0 a0 := by kernel_rfl
   exact h
def ttqa_ (Cl : Oracle) (n : Nat) (H0 : Sqa__0 → OR) (x0 : RowT sh7) : OR :=
 (tRes rs6 (Cl 18 [pE] [(bx sh7 x0)]) fun v0 => (bif (v0.1) then (some ((.one (iC (-1))), [(bx sh7 (v0.2.1))])) else (tRes rs6 (Cl 13 [pE, (.one (sC [116, 114, 117, 101]))] [(bx sh7 (v0.2.1))]) fun v1 => (bif (v1.1) then (tRes rs26 (Cl 90 [(.one (iC 2))] []) fun v2 => (tRes rs17 (Cl 91 [pE, (.agg [(iC (v2.1.1)), (sC (v2.1.2.1)), (iC 1), (sC (v2.1.2.2.2.1)), (iC (v2.1.2.2.2.2.1)), (iC (v2.1.2.2.2.2.2.1))])] [(bx sh7 (v1.2.1))]) fun v3 => (some ((.one (iC (v3.1))), [(bx sh7 (v3.2.1))])))) else (tRes rs6 (Cl 13 [pE, (.one (sC [102, 97, 108, 115, 101]))] [(bx sh7 (v1.2.1))]) fun v4 => (bif (v4.1) then (tRes rs26 (Cl 90 [(.one (iC 2))] []) fun v5 => (tRes rs17 (Cl 91 [pE, (.agg [(iC (v5.1.1)), (sC (v5.1.2.1)), (iC (v5.1.2.2.1)), (sC (v5.1.2.2.2.1)), (iC (v5.1.2.2.2.2.1)), (iC (v5.1.2.2.2.2.2.1))])] [(bx sh7 (v4.2.1))]) fun v6 => (some ((.one (iC (v6.1))), [(bx sh7 (v6.2.1))])))) else (tRes rs6 (Cl 13 [pE, (.one (sC [101, 109, 112, 116, 121]))] [(bx sh7 (v4.2.1))]) fun v7 => (bif (v7.1) then (tRes rs26 (Cl 90 [(.one (iC 4))] []) fun v8 => (tRes rs17 (Cl 91 [pE, (.agg [(iC (v8.1.1)), (sC (v8.1.2.1)), (iC (v8.1.2.2.1)), (sC (v8.1.2.2.2.1)), (iC (v8.1.2.2.2.2.1)), (iC (v8.1.2.2.2.2.2.1))])] [(bx sh7 (v7.2.1))]) fun v9 => (some ((.one (iC (v9.1))), [(bx sh7 (v9.2.1))])))) else (tRes rs6 (Cl 13 [pE, (.one (sC [117, 110, 105, 116]))] [(bx sh7 (v7.2.1))]) fun v10 => (bif (v10.1) then (tRes rs26 (Cl 90 [(.one (iC 5))] []) fun v11 => (tRes rs17 (Cl 91 [pE, (.agg [(iC (v11.1.1)), (sC (v11.1.2.1)), (iC (v11.1.2.2.1)), (sC (v11.1.2.2.2.1)), (iC (v11.1.2.2.2.2.1)), (iC (v11.1.2.2.2.2.2.1))])] [(bx sh7 (v10.2.1))]) fun v12 => (some ((.one (iC (v12.1))), [(bx sh7 (v12.2.1))])))) else (tRes rs6 (Cl 13 [pE, (.one (sC [108, 101, 110]))] [(bx sh7 (v10.2.1))]) fun v13 => (bif (v13.1) then (tRes rs17 (Cl 98 [pE, (.one (iC 16))] [(bx sh7 (v13.2.1))]) fun v14 => (some ((.one (iC (v14.1))), [(bx sh7 (v14.2.1))]))) else (tRes rs6 (Cl 13 [pE, (.one (sC [97, 116]))] [(bx sh7 (v13.2.1))]) fun v15 => (bif (v15.1) then (tRes rs17 (Cl 98 [pE, (.one (iC 17))] [(bx sh7 (v15.2.1))]) fun v16 => (some ((.one (iC (v16.1))), [(bx sh7 (v16.2.1))]))) else (tRes rs6 (Cl 13 [pE, (.one (sC [112, 117, 115, 104]))] [(bx sh7 (v15.2.1))]) fun v17 => (bif (v17.1) then (tRes rs17 (Cl 98 [pE, (.one (iC 18))] [(bx sh7 (v17.2.1))]) fun v18 => (some ((.one (iC (v18.1))), [(bx sh7 (v18.2.1))]))) else (tRes rs6 (Cl 13 [pE, (.one (sC [106, 111, 105, 110]))] [(bx sh7 (v17.2.1))]) fun v19 => (bif (v19.1) then (tRes rs17 (Cl 98 [pE, (.one (iC 19))] [(bx sh7 (v19.2.1))]) fun v20 => (some ((.one (iC (v20.1))), [(bx sh7 (v20.2.1))]))) else (tRes rs6 (Cl 13 [pE, (.one (sC [40]))] [(bx sh7 (v19.2.1))]) fun v21 => (bif (v21.1) then (tRes rs17 (Cl 69 [pE] [(bx sh7 (v21.2.1))]) fun v22 => (tRes rs10 (Cl 33 [pE, (.one (sC [41]))] [(bx sh7 (v22.2.1))]) fun v23 => (some ((.one (iC (v22.1))), [(bx sh7 (v23.2.1))])))) else (tRes rs6 (Cl 49 [pE] [(bx sh7 (v21.2.1))]) fun v24 => (bif (v24.1) then (tRes rs26 (Cl 90 [(.one (iC 0))] []) fun v25 => (tRes rs15 (Cl 32 [pE] [(bx sh7 (v24.2.1))]) fun v26 => (tRes rs17 (Cl 91 [pE, (.agg [(iC (v25.1.1)), (sC (v26.1)), (iC (v25.1.2.2.1)), (sC (v25.1.2.2.2.1)), (iC (v25.1.2.2.2.2.1)), (iC (v25.1.2.2.2.2.2.1))])] [(bx sh7 (v26.2.1))]) fun v27 => (some ((.one (iC (v27.1))), [(bx sh7 (v27.2.1))]))))) else (tRes rs6 (Cl 12 [pE] [(bx sh7 (v24.2.1))]) fun v28 => (bif (v28.1) then (qOpt (asI v28.2.1.2.1) fun o29 => (rA sh3 0 1 v28.2.1.1.2 (o29) fun v31 => (bif (v31.1 == (1 : Int)) then (tRes rs26 (Cl 90 [(.one (iC 1))] []) fun v32 => (qOpt (asI v28.2.1.2.1) fun o33 => (rA [.str] 1 1 v28.2.1.1.2 (o33) fun v35 => (tRes rs18 (Cl 45 [(.one (sC (v35.1))), (.one (iC 10)), (.one (iC 64))] []) fun v36 => (bif (v36.1.2.1) then (tRes rs17 (Cl 91 [pE, (.agg [(iC (v32.1.1)), (sC (v32.1.2.1)), (iC (v36.1.1)), (sC (v32.1.2.2.2.1)), (iC (v32.1.2.2.2.2.1)), (iC (v32.1.2.2.2.2.2.1))])] [(bx sh7 (v28.2.1.1, (w64 (v28.2.1.2.1 + (1 : Int))), v28.2.1.2.2))]) fun v37 => (some ((.one (iC (v37.1))), [(bx sh7 (v37.2.1))]))) else (tRes rs17 (Cl 91 [pE, (.agg [(iC (v32.1.1)), (sC (v32.1.2.1)), (iC (v36.1.1)), (sC (v32.1.2.2.2.1)), (iC (v32.1.2.2.2.2.1)), (iC (v32.1.2.2.2.2.2.1))])] [(bx sh7 (v28.2.1.1, (w64 (v28.2.1.2.1 + (1 : Int))), v28.2.1.2.2))]) fun v38 => (some ((.one (iC (v38.1))), [(bx sh7 (v38.2.1))])))))))) else (tRes rs6 (Cl 12 [pE] [(bx sh7 (v28.2.1))]) fun v39 => (bif (v39.1) then (qOpt (asI v39.2.1.2.1) fun o40 => (rA sh3 0 1 v39.2.1.1.2 (o40) fun v42 => (bif (v42.1 == (2 : Int)) then (tRes rs26 (Cl 90 [(.one (iC 3))] []) fun v43 => (qOpt (asI v39.2.1.2.1) fun o44 => (rA [.str] 1 1 v39.2.1.1.2 (o44) fun v46 => (tRes rs17 (Cl 91 [pE, (.agg [(iC (v43.1.1)), (sC (v43.1.2.1)), (iC (v43.1.2.2.1)), (sC (v46.1)), (iC (v43.1.2.2.2.2.1)), (iC (v43.1.2.2.2.2.2.1))])] [(bx sh7 (v39.2.1.1, (w64 (v39.2.1.2.1 + (1 : Int))), v39.2.1.2.2))]) fun v47 => (some ((.one (iC (v47.1))), [(bx sh7 (v47.2.1))])))))) else (H0 (.s0 (v39.2.1)))))) else (H0 (.s0 (v39.2.1)))))))) else (tRes rs6 (Cl 12 [pE] [(bx sh7 (v28.2.1))]) fun v48 => (bif (v48.1) then (qOpt (asI v48.2.1.2.1) fun o49 => (rA sh3 0 1 v48.2.1.1.2 (o49) fun v51 => (bif (v51.1 == (2 : Int)) then (tRes rs26 (Cl 90 [(.one (iC 3))] []) fun v52 => (qOpt (asI v48.2.1.2.1) fun o53 => (rA [.str] 1 1 v48.2.1.1.2 (o53) fun v55 => (tRes rs17 (Cl 91 [pE, (.agg [(iC (v52.1.1)), (sC (v52.1.2.1)), (iC (v52.1.2.2.1)), (sC (v55.1)), (iC (v52.1.2.2.2.2.1)), (iC (v52.1.2.2.2.2.2.1))])] [(bx sh7 (v48.2.1.1, (w64 (v48.2.1.2.1 + (1 : Int))), v48.2.1.2.2))]) fun v56 => (some ((.one (iC (v56.1))), [(bx sh7 (v56.2.1))])))))) else (H0 (.s0 (v48.2.1)))))) else (H0 (.s0 (v48.2.1)))))))))))))))))))))))))))))
def tqa_ (Cl : Oracle) (n : Nat) (x0 : RowT sh7) : OR := ttqa_ Cl n (lqa__0 Cl n x0 n) x0
theorem ptqa_ (Cl : Oracle) (n : Nat) (x0 : RowT sh7) : evBodyA an97 Cl n k97 [pE] [(bx sh7 x0)] = tqa_ Cl n x0 := by
 have h : evBodyA an97 Cl n k97 [pE] [(bx sh7 x0)] = ttqa_ Cl n (fun s => h97_0 Cl n [(bx sh7 x0)] n s.st) x0 := by kernel_rfl
 have e0 : (fun s => h97_0 Cl n [(bx sh7 x0)] n s.st) = lqa__0 Cl n x0 n := funext (hlqa__0 Cl n x0 n)
 rw [e0] at h
 exact h
def sqj__0_0 (a0 : RowT sh7) (a1 : RowT sh10) : Go.Abs.St := [((.s 0), ⟨pE, 0⟩), ((.r (.e 0)), ⟨(.one (iC 8)), 0⟩), ((.b (.e 0) 0), ⟨(.one (lC (.im a0.1.1) 3 a0.1.2)), 0⟩), ((.b (.e 0) 1), ⟨(.one (iC a0.2.1)), 0⟩), ((.b (.e 0) 2), ⟨(.one (iC a0.2.2.1)), 0⟩), ((.b (.e 0) 3), ⟨(.one (iC a0.2.2.2.1)), 0⟩), ((.b (.e 0) 4), ⟨(.one (sC a0.2.2.2.2.1)), 0⟩), ((.b (.e 0) 5), ⟨(.one (lC a0.2.2.2.2.2.1.1 3 a0.2.2.2.2.2.1.2)), 0⟩), ((.b (.e 0) 6), ⟨(.one (lC a0.2.2.2.2.2.2.1.1 6 a0.2.2.2.2.2.2.1.2)), 0⟩), ((.b (.e 0) 7), ⟨(.one (lC a0.2.2.2.2.2.2.2.1.1 10 a0.2.2.2.2.2.2.2.1.2)), 0⟩), ((.r (.l 5)), ⟨(.one (iC 6)), 1⟩), ((.b (.l 5) 0), ⟨(.one (iC a1.1)), 0⟩), ((.b (.l 5) 1), ⟨(.one (sC a1.2.1)), 0⟩), ((.b (.l 5) 2), ⟨(.one (iC a1.2.2.1)), 0⟩), ((.b (.l 5) 3), ⟨(.one (sC a1.2.2.2.1)), 0⟩), ((.b (.l 5) 4), ⟨(.one (iC a1.2.2.2.2.1)), 0⟩), ((.b (.l 5) 5), ⟨(.one (iC a1.2.2.2.2.2.1)), 0⟩), ((.s 5), ⟨(.one (.ptr (.l 5) 1 0)), 0⟩)]
inductive Sqj__0 where | s0 (a0 : RowT sh7) (a1 : RowT sh10)
def Sqj__0.st : Sqj__0 → Go.Abs.St | .s0 a0 a1 => sqj__0_0 a0 a1
def wqj__0_0 (Cl : Oracle) (n : Nat) (x1 : RowT sh7) (a0 : RowT sh7) (a1 : RowT sh10) : OR :=
 (tRes rs10 (Cl 33 [pE, (.one (sC [41]))] [(bx sh7 a0)]) fun v5 => (tRes rs17 (Cl 91 [pE, (.agg [(iC (a1.1)), (sC (a1.2.1)), (iC (a1.2.2.1)), (sC (a1.2.2.2.1)), (iC (a1.2.2.2.2.1)), (iC (a1.2.2.2.2.2.1))])] [(bx sh7 (v5.2.1))]) fun v6 => (some ((.one (iC (v6.1))), [(bx sh7 (v6.2.1))]))))
def lqj__0 (Cl : Oracle) (n : Nat) (x1 : RowT sh7) (m : Nat) : Sqj__0 → OR := Nat.rec (fun _ => none) (fun _ ih s => match s with | .s0 a0 a1 => wqj__0_0 Cl n x1 a0 a1) m
theorem hlqj__0 (Cl : Oracle) (n : Nat) (x1 : RowT sh7) : ∀ (m : Nat) (s : Sqj__0), h98_0 Cl n [(bx sh7 x1)] m s.st = lqj__0 Cl n x1 m s := by
 intro m
 induction m with
 | zero => intro s; kernel_rfl
 | succ m ih =>
  intro s
  cases s with
  | s0 a0 a1 =>
   have h : h98_0 Cl n [(bx sh7 x1)] (m + 1) (sqj__0_0 a0 a1) = wqj__0_0 Cl n x1 a0 a1 := by kernel_rfl
   exact h
def ttqj_ (Cl : Oracle) (n : Nat) (H0 : Sqj__0 → OR) (x0 : Int) (x1 : RowT sh7) : OR :=
 (tRes rs26 (Cl 90 [(.one (iC x0))] []) fun v0 => (tRes rs10 (Cl 33 [pE, (.one (sC [40]))] [(bx sh7 x1)]) fun v1 => (tRes rs17 (Cl 69 [pE] [(bx sh7 (v1.2.1))]) fun v2 => (bif (x0 != (16 : Int)) then (tRes rs10 (Cl 33 [pE, (.one (sC [44]))] [(bx sh7 (v2.2.1))]) fun v3 => (tRes rs17 (Cl 69 [pE] [(bx sh7 (v3.2.1))]) fun v4 => (H0 (.s0 (v4.2.1) ((v0.1.1), (v0.1.2.1), (v0.1.2.2.1), (v0.1.2.2.2.1), (v2.1), (v4.1), ()))))) else (H0 (.s0 (v2.2.1) ((v0.1.1), (v0.1.2.1), (v0.1.2.2.1), (v0.1.2.2.2.1), (v2.1), (v0.1.2.2.2.2.2.1), ())))))))
def tqj_ (Cl : Oracle) (n : Nat) (x0 : Int) (x1 : RowT sh7) : OR := ttqj_ Cl n (lqj__0 Cl n x1 n) x0 x1
theorem ptqj_ (Cl : Oracle) (n : Nat) (x0 : Int) (x1 : RowT sh7) : evBodyA an98 Cl n k98 [pE, (.one (iC x0))] [(bx sh7 x1)] = tqj_ Cl n x0 x1 := by
 have h : evBodyA an98 Cl n k98 [pE, (.one (iC x0))] [(bx sh7 x1)] = ttqj_ Cl n (fun s => h98_0 Cl n [(bx sh7 x1)] n s.st) x0 x1 := by kernel_rfl
 have e0 : (fun s => h98_0 Cl n [(bx sh7 x1)] n s.st) = lqj__0 Cl n x1 n := funext (hlqj__0 Cl n x1 n)
 rw [e0] at h
 exact h
end Go.Proofs.YteaaelhndaijoaaDoor
