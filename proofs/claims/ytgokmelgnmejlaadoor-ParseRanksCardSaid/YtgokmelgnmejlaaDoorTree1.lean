/- The functions that the law reaches as the evaluator takes them, and what they come to: printed by program. -/
import Derived.Test.YtgokmelgnmejlaaDoorTree0
set_option maxRecDepth 100000
set_option maxHeartbeats 40000000
set_option linter.unusedVariables false
namespace Go.Proofs.YtgokmelgnmejlaaDoor
open Go Go.Abs
def t39 (Cl : Oracle) (n : Nat) (x0 : Int) : OR :=
  (bif (x0 == (6 : Int)) then (some ((.one (sC [43])), [])) else (bif (x0 == (7 : Int)) then (some ((.one (sC [45])), [])) else (bif (x0 == (8 : Int)) then (some ((.one (sC [42])), [])) else (bif (x0 == (9 : Int)) then (some ((.one (sC [47])), [])) else (bif (x0 == (10 : Int)) then (some ((.one (sC [109, 111, 100])), [])) else (bif (x0 == (11 : Int)) then (some ((.one (sC [61, 61])), [])) else (bif (x0 == (12 : Int)) then (some ((.one (sC [60])), [])) else (bif (x0 == (13 : Int)) then (some ((.one (sC [97, 110, 100])), [])) else (bif (x0 == (14 : Int)) then (some ((.one (sC [111, 114])), [])) else (some ((.one (sC [])), [])))))))))))
theorem pt39 (Cl : Oracle) (n : Nat) (x0 : Int) : evBodyA an39 Cl n k39 [(.one (iC x0))] [] = t39 Cl n x0 := by kernel_rfl
def t40 (Cl : Oracle) (n : Nat) (x0 : Int) : OR :=
  (bif (x0 == (16 : Int)) then (some ((.one (sC [108, 101, 110])), [])) else (bif (x0 == (17 : Int)) then (some ((.one (sC [97, 116])), [])) else (bif (x0 == (18 : Int)) then (some ((.one (sC [112, 117, 115, 104])), [])) else (some ((.one (sC [106, 111, 105, 110])), [])))))
theorem pt40 (Cl : Oracle) (n : Nat) (x0 : Int) : evBodyA an40 Cl n k40 [(.one (iC x0))] [] = t40 Cl n x0 := by kernel_rfl
def t21 (Cl : Oracle) (n : Nat) (x0 : Int) : OR :=
  (some ((.one (bC (x0 != (10 : Int)))), []))
theorem pt21 (Cl : Oracle) (n : Nat) (x0 : Int) : evBodyA an21 Cl n k21 [(.one (.d (.int .u8 x0)))] [] = t21 Cl n x0 := by kernel_rfl
def t23 (Cl : Oracle) (n : Nat) (x0 : Int) : OR :=
  (tRes rs0 (Cl 22 [(.one (.d (.int .u8 x0)))] []) fun v0 => (bif (v0.1) then rT else (tRes rs0 (Cl 18 [(.one (.d (.int .u8 x0)))] []) fun v1 => (some ((.one (bC (v1.1))), [])))))
theorem pt23 (Cl : Oracle) (n : Nat) (x0 : Int) : evBodyA an23 Cl n k23 [(.one (.d (.int .u8 x0)))] [] = t23 Cl n x0 := by kernel_rfl
def s41_0_0  : Go.Abs.St := []
inductive S41_0 where | s0
def S41_0.st : S41_0 → Go.Abs.St | .s0  => s41_0_0
def w41_0_0 (Cl : Oracle) (n : Nat)    : OR :=
  rF
def l41_0 (Cl : Oracle) (n : Nat)   (m : Nat) : S41_0 → OR := Nat.rec (fun _ => none) (fun _ ih s => match s with | .s0  => w41_0_0 Cl n   ) m
theorem hl41_0 (Cl : Oracle) (n : Nat)   : ∀ (m : Nat) (s : S41_0), h41_0 Cl n []  m s.st = l41_0 Cl n   m s := by
  intro m
  induction m with
  | zero => intro s; kernel_rfl
  | succ m ih =>
    intro s
    cases s with
    | s0  =>
      have h : h41_0 Cl n []  (m + 1) (s41_0_0 ) = w41_0_0 Cl n    := by kernel_rfl
      exact h
def tt41 (Cl : Oracle) (n : Nat) (H0 : S41_0 → OR) (x0 : BB) : OR :=
  (bif (x0 == [97, 110, 100]) then rT else (bif (x0 == [97, 115]) then rT else (bif (x0 == [97, 116]) then rT else (bif (x0 == [98, 111, 111, 108]) then rT else (bif (x0 == [99, 97, 108, 108]) then rT else (bif (x0 == [99, 104, 97, 110]) then rT else (bif (x0 == [100, 114, 111, 112]) then rT else (bif (x0 == [101, 108, 115, 101]) then rT else (bif (x0 == [101, 109, 112, 116, 121]) then rT else (bif (x0 == [101, 110, 100]) then rT else (bif (x0 == [102, 97, 105, 108]) then rT else (bif (x0 == [102, 97, 108, 115, 101]) then rT else (bif (x0 == [102, 114, 111, 109]) then rT else (bif (x0 == [104, 101, 97, 114]) then rT else (bif (x0 == [105, 102]) then rT else (bif (x0 == [105, 110, 116]) then rT else (bif (x0 == [106, 111, 105, 110]) then rT else (bif (x0 == [108, 101, 110]) then rT else (bif (x0 == [108, 101, 116]) then rT else (bif (x0 == [108, 105, 115, 116]) then rT else (bif (x0 == [108, 111, 99, 97, 108]) then rT else (bif (x0 == [108, 111, 115, 116]) then rT else (bif (x0 == [109, 111, 100]) then rT else (bif (x0 == [110, 111, 116]) then rT else (bif (x0 == [111, 112, 101, 110]) then rT else (bif (x0 == [111, 114]) then rT else (bif (x0 == [112, 114, 105, 110, 116]) then rT else (bif (x0 == [112, 114, 111, 99]) then rT else (bif (x0 == [112, 114, 111, 116, 111, 99, 111, 108]) then rT else (bif (x0 == [112, 117, 115, 104]) then rT else (bif (x0 == [114, 111, 108, 101, 115]) then rT else (bif (x0 == [115, 97, 121]) then rT else (bif (x0 == [115, 112, 97, 119, 110]) then rT else (bif (x0 == [115, 116, 111, 112]) then rT else (bif (x0 == [116, 101, 120, 116]) then rT else (bif (x0 == [116, 111]) then rT else (bif (x0 == [116, 114, 117, 101]) then rT else (bif (x0 == [117, 110, 105, 116]) then rT else (bif (x0 == [119, 105, 116, 104]) then rT else (H0 (.s0 )))))))))))))))))))))))))))))))))))))))))
def t41 (Cl : Oracle) (n : Nat) (x0 : BB) : OR := tt41 Cl n (l41_0 Cl n  n) x0
theorem pt41 (Cl : Oracle) (n : Nat) (x0 : BB) : evBodyA an41 Cl n k41 [(.one (sC x0))] [] = t41 Cl n x0 := by
  have h : evBodyA an41 Cl n k41 [(.one (sC x0))] [] = tt41 Cl n (fun s => h41_0 Cl n [] n s.st) x0 := by kernel_rfl
  have e0 : (fun s => h41_0 Cl n [] n s.st) = l41_0 Cl n  n := funext (hl41_0 Cl n  n)
  rw [e0] at h
  exact h
def t43 (Cl : Oracle) (n : Nat) (x0 : Int) (x1 : RowT [.str]) : OR :=
  (bif (decide (x0 < natI (List.length x1.1))) then (qOpt (asI x0) fun o0 => (qOpt (x1.1[o0]?) fun o1 => (some ((.one (.d (.int .u8 (natI o1.toNat)))), [(bx [.str] x1)])))) else (some ((.one (.d (.int .u8 0))), [(bx [.str] x1)])))
theorem pt43 (Cl : Oracle) (n : Nat) (x0 : Int) (x1 : RowT [.str]) : evBodyA an43 Cl n k43 [(.one (iC x0)), pE] [(bx [.str] x1)] = t43 Cl n x0 x1 := by kernel_rfl
def t44 (Cl : Oracle) (n : Nat) (x0 : Int) : OR :=
  (tRes rs0 (Cl 18 [(.one (.d (.int .u8 x0)))] []) fun v0 => (bif (v0.1) then rT else (bif (decide (x0 ≥ (97 : Int))) then (some ((.one (bC (decide (x0 ≤ (102 : Int))))), [])) else rF)))
theorem pt44 (Cl : Oracle) (n : Nat) (x0 : Int) : evBodyA an44 Cl n k44 [(.one (.d (.int .u8 x0)))] [] = t44 Cl n x0 := by kernel_rfl
def t45 (Cl : Oracle) (n : Nat) (x0 : Int) : OR :=
  (tRes rs0 (Cl 18 [(.one (.d (.int .u8 x0)))] []) fun v0 => (bif (v0.1) then (some ((.one (.d (.int .u8 (w8 (x0 - (48 : Int)))))), [])) else (some ((.one (.d (.int .u8 (w8 (w8 (x0 - (97 : Int)) + (10 : Int)))))), []))))
theorem pt45 (Cl : Oracle) (n : Nat) (x0 : Int) : evBodyA an45 Cl n k45 [(.one (.d (.int .u8 x0)))] [] = t45 Cl n x0 := by kernel_rfl
def t46 (Cl : Oracle) (n : Nat) (x0 : RowT sh3) : OR :=
  (tRes rs3 (Cl 8 [pE] [(bx sh3 x0)]) fun v0 => (bif (v0.1) then (qOpt (asI v0.2.1.2.1) fun o1 => (rA sh1 0 1 v0.2.1.1.2 (o1) fun v3 => (bif (v3.1 == (0 : Int)) then (qOpt (asI v0.2.1.2.1) fun o4 => (rA [.str] 1 1 v0.2.1.1.2 (o4) fun v6 => (tRes rs0 (Cl 49 [(.one (sC (v6.1)))] []) fun v7 => (some ((.one (bC (v7.1))), [(bx sh3 (v0.2.1))]))))) else (some ((.one (bC false)), [(bx sh3 (v0.2.1))]))))) else (some ((.one (bC false)), [(bx sh3 (v0.2.1))]))))
theorem pt46 (Cl : Oracle) (n : Nat) (x0 : RowT sh3) : evBodyA an46 Cl n k46 [pE] [(bx sh3 x0)] = t46 Cl n x0 := by kernel_rfl
def s48_0_0 (a0 : RowT sh3) : Go.Abs.St := [((.s 0), ⟨pE, 0⟩), ((.r (.e 0)), ⟨(.one (iC 8)), 0⟩), ((.b (.e 0) 0), ⟨(.one (lC (.im a0.1.1) 3 a0.1.2)), 0⟩), ((.b (.e 0) 1), ⟨(.one (iC a0.2.1)), 0⟩), ((.b (.e 0) 2), ⟨(.one (iC a0.2.2.1)), 0⟩), ((.b (.e 0) 3), ⟨(.one (iC a0.2.2.2.1)), 0⟩), ((.b (.e 0) 4), ⟨(.one (sC a0.2.2.2.2.1)), 0⟩), ((.b (.e 0) 5), ⟨(.one (lC a0.2.2.2.2.2.1.1 3 a0.2.2.2.2.2.1.2)), 0⟩), ((.b (.e 0) 6), ⟨(.one (lC a0.2.2.2.2.2.2.1.1 6 a0.2.2.2.2.2.2.1.2)), 0⟩), ((.b (.e 0) 7), ⟨(.one (lC a0.2.2.2.2.2.2.2.1.1 10 a0.2.2.2.2.2.2.2.1.2)), 0⟩)]
def s48_1_0 (a0 : RowT sh3) (a1 : Int) (a2 : RowT sh27) : Go.Abs.St := [((.s 0), ⟨pE, 0⟩), ((.r (.e 0)), ⟨(.one (iC 8)), 0⟩), ((.b (.e 0) 0), ⟨(.one (lC (.im a0.1.1) 3 a0.1.2)), 0⟩), ((.b (.e 0) 1), ⟨(.one (iC a0.2.1)), 0⟩), ((.b (.e 0) 2), ⟨(.one (iC a0.2.2.1)), 0⟩), ((.b (.e 0) 3), ⟨(.one (iC a0.2.2.2.1)), 0⟩), ((.b (.e 0) 4), ⟨(.one (sC a0.2.2.2.2.1)), 0⟩), ((.b (.e 0) 5), ⟨(.one (lC a0.2.2.2.2.2.1.1 3 a0.2.2.2.2.2.1.2)), 0⟩), ((.b (.e 0) 6), ⟨(.one (lC a0.2.2.2.2.2.2.1.1 6 a0.2.2.2.2.2.2.1.2)), 0⟩), ((.b (.e 0) 7), ⟨(.one (lC a0.2.2.2.2.2.2.2.1.1 10 a0.2.2.2.2.2.2.2.1.2)), 0⟩), ((.s 2), ⟨(.one (iC a1)), 0⟩), ((.r (.l 3)), ⟨(.one (iC 10)), 1⟩), ((.b (.l 3) 0), ⟨(.one (iC a2.1)), 0⟩), ((.b (.l 3) 1), ⟨(.one (sC a2.2.1)), 0⟩), ((.b (.l 3) 2), ⟨(.one (sC a2.2.2.1)), 0⟩), ((.b (.l 3) 3), ⟨(.one (sC a2.2.2.2.1)), 0⟩), ((.b (.l 3) 4), ⟨(.one (sC a2.2.2.2.2.1)), 0⟩), ((.b (.l 3) 5), ⟨(.one (iC a2.2.2.2.2.2.1)), 0⟩), ((.b (.l 3) 6), ⟨(.one (lC a2.2.2.2.2.2.2.1.1 1 a2.2.2.2.2.2.2.1.2)), 0⟩), ((.b (.l 3) 7), ⟨(.one (lC a2.2.2.2.2.2.2.2.1.1 3 a2.2.2.2.2.2.2.2.1.2)), 0⟩), ((.b (.l 3) 8), ⟨(.one (lC a2.2.2.2.2.2.2.2.2.1.1 3 a2.2.2.2.2.2.2.2.2.1.2)), 0⟩), ((.b (.l 3) 9), ⟨(.one (iC a2.2.2.2.2.2.2.2.2.2.1)), 0⟩), ((.s 3), ⟨(.one (.ptr (.l 3) 1 0)), 0⟩)]
inductive S48_0 where | s0 (a0 : RowT sh3)
def S48_0.st : S48_0 → Go.Abs.St | .s0 a0 => s48_0_0 a0
inductive S48_1 where | s0 (a0 : RowT sh3) (a1 : Int) (a2 : RowT sh27)
def S48_1.st : S48_1 → Go.Abs.St | .s0 a0 a1 a2 => s48_1_0 a0 a1 a2
def w48_0_0 (Cl : Oracle) (n : Nat) (x0 : RowT sh3) (H1 : S48_1 → OR) (a0 : RowT sh3) : OR :=
  (tRes rs3 (Cl 14 [pE] [(bx sh3 a0)]) fun v0 => (bif (!v0.1) then (tagI (v0.2.1.2.2.2.2.2.2.2.1.1) (fun b1 => (gd (b1 && true && true) (H1 (.s0 (((v0.2.1.1.1), (v0.2.1.1.2)), (v0.2.1.2.1), (v0.2.1.2.2.1), (v0.2.1.2.2.2.1), (v0.2.1.2.2.2.2.1), ((v0.2.1.2.2.2.2.2.1.1), (v0.2.1.2.2.2.2.2.1.2)), ((v0.2.1.2.2.2.2.2.2.1.1), (v0.2.1.2.2.2.2.2.2.1.2)), (.own, [[(.int .i64 0), (.str []), (.str []), (.str []), (.str []), (.int .i64 (-1)), (.sl (.im true) 1 []), (.sl (.im true) 3 []), (.sl (.im true) 3 []), (.int .i64 (-1))]]), ()) (natI v0.2.1.2.2.2.2.2.2.2.1.2.length) (0, [], [], [], [], (-1), ((.im true), []), ((.im true), []), ((.im true), []), (-1), ()))))) (gd (v0.2.1.2.2.2.2.2.2.2.1.2.length == v0.2.1.2.2.2.2.2.2.2.1.2.length && true && decide ((v0.2.1.2.2.2.2.2.2.2.1.2.length + 1) * 160 ≤ 140737488355328)) (H1 (.s0 (((v0.2.1.1.1), (v0.2.1.1.2)), (v0.2.1.2.1), (v0.2.1.2.2.1), (v0.2.1.2.2.2.1), (v0.2.1.2.2.2.2.1), ((v0.2.1.2.2.2.2.2.1.1), (v0.2.1.2.2.2.2.2.1.2)), ((v0.2.1.2.2.2.2.2.2.1.1), (v0.2.1.2.2.2.2.2.2.1.2)), (.own, (v0.2.1.2.2.2.2.2.2.2.1.2 ++ [[D.int .i64 (0 : Int), D.str [], D.str [], D.str [], D.str [], D.int .i64 (0 : Int), D.sl (.im true) 1 [], D.sl (.im true) 3 [], D.sl (.im true) 3 [], D.int .i64 (0 : Int)]].set 0 [D.int .i64 (0 : Int), D.str [], D.str [], D.str [], D.str [], D.int .i64 (-1 : Int), D.sl (.im true) 1 [], D.sl (.im true) 3 [], D.sl (.im true) 3 [], D.int .i64 (-1 : Int)])), ()) (natI v0.2.1.2.2.2.2.2.2.2.1.2.length) (0, [], [], [], [], (-1), ((.im true), []), ((.im true), []), ((.im true), []), (-1), ()))))) else (some ((.tup []), [(bx sh3 (v0.2.1))]))))
def w48_1_0 (Cl : Oracle) (n : Nat) (x0 : RowT sh3) (H0 : S48_0 → OR) (a0 : RowT sh3) (a1 : Int) (a2 : RowT sh27) : OR :=
  (tRes rs22 (Cl 57 [pE, (.one (.ptr (.e 1) 0 0))] [(bx sh3 a0), (bx sh27 a2)]) fun v2 => (bif (v2.1) then (tagI (v2.2.1.2.2.2.2.2.2.2.1.1) (fun b3 => (tagI (v2.2.2.1.2.2.2.2.2.2.1.1) (fun b4 => (tagI (v2.2.2.1.2.2.2.2.2.2.2.1.1) (fun b5 => (tagI (v2.2.2.1.2.2.2.2.2.2.2.2.1.1) (fun b6 => (qOpt (asI a1) fun o7 => (qOpt (v2.2.1.2.2.2.2.2.2.2.1.2[o7]?) fun o8 => none))) (qOpt (asI a1) fun o9 => (qOpt (v2.2.1.2.2.2.2.2.2.2.1.2[o9]?) fun o10 => none)))) (tagI (v2.2.2.1.2.2.2.2.2.2.2.2.1.1) (fun b11 => (qOpt (asI a1) fun o12 => (qOpt (v2.2.1.2.2.2.2.2.2.2.1.2[o12]?) fun o13 => none))) (qOpt (asI a1) fun o14 => (qOpt (v2.2.1.2.2.2.2.2.2.2.1.2[o14]?) fun o15 => none))))) (tagI (v2.2.2.1.2.2.2.2.2.2.2.1.1) (fun b16 => (tagI (v2.2.2.1.2.2.2.2.2.2.2.2.1.1) (fun b17 => (qOpt (asI a1) fun o18 => (qOpt (v2.2.1.2.2.2.2.2.2.2.1.2[o18]?) fun o19 => none))) (qOpt (asI a1) fun o20 => (qOpt (v2.2.1.2.2.2.2.2.2.2.1.2[o20]?) fun o21 => none)))) (tagI (v2.2.2.1.2.2.2.2.2.2.2.2.1.1) (fun b22 => (qOpt (asI a1) fun o23 => (qOpt (v2.2.1.2.2.2.2.2.2.2.1.2[o23]?) fun o24 => none))) (qOpt (asI a1) fun o25 => (qOpt (v2.2.1.2.2.2.2.2.2.2.1.2[o25]?) fun o26 => none)))))) (tagI (v2.2.2.1.2.2.2.2.2.2.1.1) (fun b27 => (tagI (v2.2.2.1.2.2.2.2.2.2.2.1.1) (fun b28 => (tagI (v2.2.2.1.2.2.2.2.2.2.2.2.1.1) (fun b29 => (qOpt (asI a1) fun o30 => (gd (decide (o30 < v2.2.1.2.2.2.2.2.2.2.1.2.length)) (qOpt (v2.2.1.2.2.2.2.2.2.2.1.2[0 + o30]?) fun o31 => (gd (decide (0 + 10 ≤ o31.length) && true) (tRow sh28 (List.take 10 (List.drop 0 o31)) fun v32 => (H0 (.s0 (((v2.2.1.1.1), (v2.2.1.1.2)), (v2.2.1.2.1), (v2.2.1.2.2.1), (v2.2.1.2.2.2.1), (v2.2.1.2.2.2.2.1), ((v2.2.1.2.2.2.2.2.1.1), (v2.2.1.2.2.2.2.2.1.2)), ((v2.2.1.2.2.2.2.2.2.1.1), (v2.2.1.2.2.2.2.2.2.1.2)), (.own, (rset (rset (rset (rset (rset (rset (rset (rset (rset (rset v2.2.1.2.2.2.2.2.2.2.1.2 (0 + o30) 0 (D.int .i64 v2.2.2.1.1)) (0 + o30) 1 (D.str v2.2.2.1.2.1)) (0 + o30) 2 (D.str v2.2.2.1.2.2.1)) (0 + o30) 3 (D.str v2.2.2.1.2.2.2.1)) (0 + o30) 4 (D.str v2.2.2.1.2.2.2.2.1)) (0 + o30) 5 (D.int .i64 v2.2.2.1.2.2.2.2.2.1)) (0 + o30) 6 (D.sl (.im b27) 1 v2.2.2.1.2.2.2.2.2.2.1.2)) (0 + o30) 7 (D.sl (.im b28) 3 v2.2.2.1.2.2.2.2.2.2.2.1.2)) (0 + o30) 8 (D.sl (.im b29) 3 v2.2.2.1.2.2.2.2.2.2.2.2.1.2)) (0 + o30) 9 (D.int .i64 (w64 (a1 + (1 : Int)))))), ()))))))))) (qOpt (asI a1) fun o33 => (gd (decide (o33 < v2.2.1.2.2.2.2.2.2.2.1.2.length)) (gd (decide (0 + v2.2.2.1.2.2.2.2.2.2.2.2.1.2.length ≤ v2.2.2.1.2.2.2.2.2.2.2.2.1.2.length)) (qOpt (v2.2.1.2.2.2.2.2.2.2.1.2[0 + o33]?) fun o34 => (gd (decide (0 + 10 ≤ o34.length) && true) (tRow sh28 (List.take 10 (List.drop 0 o34)) fun v35 => (H0 (.s0 (((v2.2.1.1.1), (v2.2.1.1.2)), (v2.2.1.2.1), (v2.2.1.2.2.1), (v2.2.1.2.2.2.1), (v2.2.1.2.2.2.2.1), ((v2.2.1.2.2.2.2.2.1.1), (v2.2.1.2.2.2.2.2.1.2)), ((v2.2.1.2.2.2.2.2.2.1.1), (v2.2.1.2.2.2.2.2.2.1.2)), (.own, (rset (rset (rset (rset (rset (rset (rset (rset (rset (rset v2.2.1.2.2.2.2.2.2.2.1.2 (0 + o33) 0 (D.int .i64 v2.2.2.1.1)) (0 + o33) 1 (D.str v2.2.2.1.2.1)) (0 + o33) 2 (D.str v2.2.2.1.2.2.1)) (0 + o33) 3 (D.str v2.2.2.1.2.2.2.1)) (0 + o33) 4 (D.str v2.2.2.1.2.2.2.2.1)) (0 + o33) 5 (D.int .i64 v2.2.2.1.2.2.2.2.2.1)) (0 + o33) 6 (D.sl (.im b27) 1 v2.2.2.1.2.2.2.2.2.2.1.2)) (0 + o33) 7 (D.sl (.im b28) 3 v2.2.2.1.2.2.2.2.2.2.2.1.2)) (0 + o33) 8 (D.sl (.im false) 3 (plainRs (whole v2.2.2.1.2.2.2.2.2.2.2.2.1.2)))) (0 + o33) 9 (D.int .i64 (w64 (a1 + (1 : Int)))))), ()))))))))))) (tagI (v2.2.2.1.2.2.2.2.2.2.2.2.1.1) (fun b36 => (qOpt (asI a1) fun o37 => (gd (decide (o37 < v2.2.1.2.2.2.2.2.2.2.1.2.length)) (gd (decide (0 + v2.2.2.1.2.2.2.2.2.2.2.1.2.length ≤ v2.2.2.1.2.2.2.2.2.2.2.1.2.length)) (qOpt (v2.2.1.2.2.2.2.2.2.2.1.2[0 + o37]?) fun o38 => (gd (decide (0 + 10 ≤ o38.length) && true) (tRow sh28 (List.take 10 (List.drop 0 o38)) fun v39 => (H0 (.s0 (((v2.2.1.1.1), (v2.2.1.1.2)), (v2.2.1.2.1), (v2.2.1.2.2.1), (v2.2.1.2.2.2.1), (v2.2.1.2.2.2.2.1), ((v2.2.1.2.2.2.2.2.1.1), (v2.2.1.2.2.2.2.2.1.2)), ((v2.2.1.2.2.2.2.2.2.1.1), (v2.2.1.2.2.2.2.2.2.1.2)), (.own, (rset (rset (rset (rset (rset (rset (rset (rset (rset (rset v2.2.1.2.2.2.2.2.2.2.1.2 (0 + o37) 0 (D.int .i64 v2.2.2.1.1)) (0 + o37) 1 (D.str v2.2.2.1.2.1)) (0 + o37) 2 (D.str v2.2.2.1.2.2.1)) (0 + o37) 3 (D.str v2.2.2.1.2.2.2.1)) (0 + o37) 4 (D.str v2.2.2.1.2.2.2.2.1)) (0 + o37) 5 (D.int .i64 v2.2.2.1.2.2.2.2.2.1)) (0 + o37) 6 (D.sl (.im b27) 1 v2.2.2.1.2.2.2.2.2.2.1.2)) (0 + o37) 7 (D.sl (.im false) 3 (plainRs (whole v2.2.2.1.2.2.2.2.2.2.2.1.2)))) (0 + o37) 8 (D.sl (.im b36) 3 v2.2.2.1.2.2.2.2.2.2.2.2.1.2)) (0 + o37) 9 (D.int .i64 (w64 (a1 + (1 : Int)))))), ())))))))))) (qOpt (asI a1) fun o40 => (gd (decide (o40 < v2.2.1.2.2.2.2.2.2.2.1.2.length)) (gd (decide (0 + v2.2.2.1.2.2.2.2.2.2.2.1.2.length ≤ v2.2.2.1.2.2.2.2.2.2.2.1.2.length)) (gd (decide (0 + v2.2.2.1.2.2.2.2.2.2.2.2.1.2.length ≤ v2.2.2.1.2.2.2.2.2.2.2.2.1.2.length)) (qOpt (v2.2.1.2.2.2.2.2.2.2.1.2[0 + o40]?) fun o41 => (gd (decide (0 + 10 ≤ o41.length) && true) (tRow sh28 (List.take 10 (List.drop 0 o41)) fun v42 => (H0 (.s0 (((v2.2.1.1.1), (v2.2.1.1.2)), (v2.2.1.2.1), (v2.2.1.2.2.1), (v2.2.1.2.2.2.1), (v2.2.1.2.2.2.2.1), ((v2.2.1.2.2.2.2.2.1.1), (v2.2.1.2.2.2.2.2.1.2)), ((v2.2.1.2.2.2.2.2.2.1.1), (v2.2.1.2.2.2.2.2.2.1.2)), (.own, (rset (rset (rset (rset (rset (rset (rset (rset (rset (rset v2.2.1.2.2.2.2.2.2.2.1.2 (0 + o40) 0 (D.int .i64 v2.2.2.1.1)) (0 + o40) 1 (D.str v2.2.2.1.2.1)) (0 + o40) 2 (D.str v2.2.2.1.2.2.1)) (0 + o40) 3 (D.str v2.2.2.1.2.2.2.1)) (0 + o40) 4 (D.str v2.2.2.1.2.2.2.2.1)) (0 + o40) 5 (D.int .i64 v2.2.2.1.2.2.2.2.2.1)) (0 + o40) 6 (D.sl (.im b27) 1 v2.2.2.1.2.2.2.2.2.2.1.2)) (0 + o40) 7 (D.sl (.im false) 3 (plainRs (whole v2.2.2.1.2.2.2.2.2.2.2.1.2)))) (0 + o40) 8 (D.sl (.im false) 3 (plainRs (whole v2.2.2.1.2.2.2.2.2.2.2.2.1.2)))) (0 + o40) 9 (D.int .i64 (w64 (a1 + (1 : Int)))))), ()))))))))))))) (tagI (v2.2.2.1.2.2.2.2.2.2.2.1.1) (fun b43 => (tagI (v2.2.2.1.2.2.2.2.2.2.2.2.1.1) (fun b44 => (qOpt (asI a1) fun o45 => (gd (decide (o45 < v2.2.1.2.2.2.2.2.2.2.1.2.length)) (gd (decide (0 + v2.2.2.1.2.2.2.2.2.2.1.2.length ≤ v2.2.2.1.2.2.2.2.2.2.1.2.length)) (qOpt (v2.2.1.2.2.2.2.2.2.2.1.2[0 + o45]?) fun o46 => (gd (decide (0 + 10 ≤ o46.length) && true) (tRow sh28 (List.take 10 (List.drop 0 o46)) fun v47 => (H0 (.s0 (((v2.2.1.1.1), (v2.2.1.1.2)), (v2.2.1.2.1), (v2.2.1.2.2.1), (v2.2.1.2.2.2.1), (v2.2.1.2.2.2.2.1), ((v2.2.1.2.2.2.2.2.1.1), (v2.2.1.2.2.2.2.2.1.2)), ((v2.2.1.2.2.2.2.2.2.1.1), (v2.2.1.2.2.2.2.2.2.1.2)), (.own, (rset (rset (rset (rset (rset (rset (rset (rset (rset (rset v2.2.1.2.2.2.2.2.2.2.1.2 (0 + o45) 0 (D.int .i64 v2.2.2.1.1)) (0 + o45) 1 (D.str v2.2.2.1.2.1)) (0 + o45) 2 (D.str v2.2.2.1.2.2.1)) (0 + o45) 3 (D.str v2.2.2.1.2.2.2.1)) (0 + o45) 4 (D.str v2.2.2.1.2.2.2.2.1)) (0 + o45) 5 (D.int .i64 v2.2.2.1.2.2.2.2.2.1)) (0 + o45) 6 (D.sl (.im false) 1 (plainRs (whole v2.2.2.1.2.2.2.2.2.2.1.2)))) (0 + o45) 7 (D.sl (.im b43) 3 v2.2.2.1.2.2.2.2.2.2.2.1.2)) (0 + o45) 8 (D.sl (.im b44) 3 v2.2.2.1.2.2.2.2.2.2.2.2.1.2)) (0 + o45) 9 (D.int .i64 (w64 (a1 + (1 : Int)))))), ())))))))))) (qOpt (asI a1) fun o48 => (gd (decide (o48 < v2.2.1.2.2.2.2.2.2.2.1.2.length)) (gd (decide (0 + v2.2.2.1.2.2.2.2.2.2.1.2.length ≤ v2.2.2.1.2.2.2.2.2.2.1.2.length)) (gd (decide (0 + v2.2.2.1.2.2.2.2.2.2.2.2.1.2.length ≤ v2.2.2.1.2.2.2.2.2.2.2.2.1.2.length)) (qOpt (v2.2.1.2.2.2.2.2.2.2.1.2[0 + o48]?) fun o49 => (gd (decide (0 + 10 ≤ o49.length) && true) (tRow sh28 (List.take 10 (List.drop 0 o49)) fun v50 => (H0 (.s0 (((v2.2.1.1.1), (v2.2.1.1.2)), (v2.2.1.2.1), (v2.2.1.2.2.1), (v2.2.1.2.2.2.1), (v2.2.1.2.2.2.2.1), ((v2.2.1.2.2.2.2.2.1.1), (v2.2.1.2.2.2.2.2.1.2)), ((v2.2.1.2.2.2.2.2.2.1.1), (v2.2.1.2.2.2.2.2.2.1.2)), (.own, (rset (rset (rset (rset (rset (rset (rset (rset (rset (rset v2.2.1.2.2.2.2.2.2.2.1.2 (0 + o48) 0 (D.int .i64 v2.2.2.1.1)) (0 + o48) 1 (D.str v2.2.2.1.2.1)) (0 + o48) 2 (D.str v2.2.2.1.2.2.1)) (0 + o48) 3 (D.str v2.2.2.1.2.2.2.1)) (0 + o48) 4 (D.str v2.2.2.1.2.2.2.2.1)) (0 + o48) 5 (D.int .i64 v2.2.2.1.2.2.2.2.2.1)) (0 + o48) 6 (D.sl (.im false) 1 (plainRs (whole v2.2.2.1.2.2.2.2.2.2.1.2)))) (0 + o48) 7 (D.sl (.im b43) 3 v2.2.2.1.2.2.2.2.2.2.2.1.2)) (0 + o48) 8 (D.sl (.im false) 3 (plainRs (whole v2.2.2.1.2.2.2.2.2.2.2.2.1.2)))) (0 + o48) 9 (D.int .i64 (w64 (a1 + (1 : Int)))))), ())))))))))))) (tagI (v2.2.2.1.2.2.2.2.2.2.2.2.1.1) (fun b51 => (qOpt (asI a1) fun o52 => (gd (decide (o52 < v2.2.1.2.2.2.2.2.2.2.1.2.length)) (gd (decide (0 + v2.2.2.1.2.2.2.2.2.2.1.2.length ≤ v2.2.2.1.2.2.2.2.2.2.1.2.length)) (gd (decide (0 + v2.2.2.1.2.2.2.2.2.2.2.1.2.length ≤ v2.2.2.1.2.2.2.2.2.2.2.1.2.length)) (qOpt (v2.2.1.2.2.2.2.2.2.2.1.2[0 + o52]?) fun o53 => (gd (decide (0 + 10 ≤ o53.length) && true) (tRow sh28 (List.take 10 (List.drop 0 o53)) fun v54 => (H0 (.s0 (((v2.2.1.1.1), (v2.2.1.1.2)), (v2.2.1.2.1), (v2.2.1.2.2.1), (v2.2.1.2.2.2.1), (v2.2.1.2.2.2.2.1), ((v2.2.1.2.2.2.2.2.1.1), (v2.2.1.2.2.2.2.2.1.2)), ((v2.2.1.2.2.2.2.2.2.1.1), (v2.2.1.2.2.2.2.2.2.1.2)), (.own, (rset (rset (rset (rset (rset (rset (rset (rset (rset (rset v2.2.1.2.2.2.2.2.2.2.1.2 (0 + o52) 0 (D.int .i64 v2.2.2.1.1)) (0 + o52) 1 (D.str v2.2.2.1.2.1)) (0 + o52) 2 (D.str v2.2.2.1.2.2.1)) (0 + o52) 3 (D.str v2.2.2.1.2.2.2.1)) (0 + o52) 4 (D.str v2.2.2.1.2.2.2.2.1)) (0 + o52) 5 (D.int .i64 v2.2.2.1.2.2.2.2.2.1)) (0 + o52) 6 (D.sl (.im false) 1 (plainRs (whole v2.2.2.1.2.2.2.2.2.2.1.2)))) (0 + o52) 7 (D.sl (.im false) 3 (plainRs (whole v2.2.2.1.2.2.2.2.2.2.2.1.2)))) (0 + o52) 8 (D.sl (.im b51) 3 v2.2.2.1.2.2.2.2.2.2.2.2.1.2)) (0 + o52) 9 (D.int .i64 (w64 (a1 + (1 : Int)))))), ()))))))))))) (qOpt (asI a1) fun o55 => (gd (decide (o55 < v2.2.1.2.2.2.2.2.2.2.1.2.length)) (gd (decide (0 + v2.2.2.1.2.2.2.2.2.2.1.2.length ≤ v2.2.2.1.2.2.2.2.2.2.1.2.length)) (gd (decide (0 + v2.2.2.1.2.2.2.2.2.2.2.1.2.length ≤ v2.2.2.1.2.2.2.2.2.2.2.1.2.length)) (gd (decide (0 + v2.2.2.1.2.2.2.2.2.2.2.2.1.2.length ≤ v2.2.2.1.2.2.2.2.2.2.2.2.1.2.length)) (qOpt (v2.2.1.2.2.2.2.2.2.2.1.2[0 + o55]?) fun o56 => (gd (decide (0 + 10 ≤ o56.length) && true) (tRow sh28 (List.take 10 (List.drop 0 o56)) fun v57 => (H0 (.s0 (((v2.2.1.1.1), (v2.2.1.1.2)), (v2.2.1.2.1), (v2.2.1.2.2.1), (v2.2.1.2.2.2.1), (v2.2.1.2.2.2.2.1), ((v2.2.1.2.2.2.2.2.1.1), (v2.2.1.2.2.2.2.2.1.2)), ((v2.2.1.2.2.2.2.2.2.1.1), (v2.2.1.2.2.2.2.2.2.1.2)), (.own, (rset (rset (rset (rset (rset (rset (rset (rset (rset (rset v2.2.1.2.2.2.2.2.2.2.1.2 (0 + o55) 0 (D.int .i64 v2.2.2.1.1)) (0 + o55) 1 (D.str v2.2.2.1.2.1)) (0 + o55) 2 (D.str v2.2.2.1.2.2.1)) (0 + o55) 3 (D.str v2.2.2.1.2.2.2.1)) (0 + o55) 4 (D.str v2.2.2.1.2.2.2.2.1)) (0 + o55) 5 (D.int .i64 v2.2.2.1.2.2.2.2.2.1)) (0 + o55) 6 (D.sl (.im false) 1 (plainRs (whole v2.2.2.1.2.2.2.2.2.2.1.2)))) (0 + o55) 7 (D.sl (.im false) 3 (plainRs (whole v2.2.2.1.2.2.2.2.2.2.2.1.2)))) (0 + o55) 8 (D.sl (.im false) 3 (plainRs (whole v2.2.2.1.2.2.2.2.2.2.2.2.1.2)))) (0 + o55) 9 (D.int .i64 (w64 (a1 + (1 : Int)))))), ()))))))))))))))) else (tRes rs23 (Cl 58 [pE, (.one (.ptr (.e 1) 0 0))] [(bx sh3 (v2.2.1)), (bx sh27 (v2.2.2.1))]) fun v58 => (tagI (v58.2.1.2.2.2.2.2.2.2.1.1) (fun b59 => (tagI (v58.2.2.1.2.2.2.2.2.2.1.1) (fun b60 => (tagI (v58.2.2.1.2.2.2.2.2.2.2.1.1) (fun b61 => (tagI (v58.2.2.1.2.2.2.2.2.2.2.2.1.1) (fun b62 => (qOpt (asI a1) fun o63 => (qOpt (v58.2.1.2.2.2.2.2.2.2.1.2[o63]?) fun o64 => none))) (qOpt (asI a1) fun o65 => (qOpt (v58.2.1.2.2.2.2.2.2.2.1.2[o65]?) fun o66 => none)))) (tagI (v58.2.2.1.2.2.2.2.2.2.2.2.1.1) (fun b67 => (qOpt (asI a1) fun o68 => (qOpt (v58.2.1.2.2.2.2.2.2.2.1.2[o68]?) fun o69 => none))) (qOpt (asI a1) fun o70 => (qOpt (v58.2.1.2.2.2.2.2.2.2.1.2[o70]?) fun o71 => none))))) (tagI (v58.2.2.1.2.2.2.2.2.2.2.1.1) (fun b72 => (tagI (v58.2.2.1.2.2.2.2.2.2.2.2.1.1) (fun b73 => (qOpt (asI a1) fun o74 => (qOpt (v58.2.1.2.2.2.2.2.2.2.1.2[o74]?) fun o75 => none))) (qOpt (asI a1) fun o76 => (qOpt (v58.2.1.2.2.2.2.2.2.2.1.2[o76]?) fun o77 => none)))) (tagI (v58.2.2.1.2.2.2.2.2.2.2.2.1.1) (fun b78 => (qOpt (asI a1) fun o79 => (qOpt (v58.2.1.2.2.2.2.2.2.2.1.2[o79]?) fun o80 => none))) (qOpt (asI a1) fun o81 => (qOpt (v58.2.1.2.2.2.2.2.2.2.1.2[o81]?) fun o82 => none)))))) (tagI (v58.2.2.1.2.2.2.2.2.2.1.1) (fun b83 => (tagI (v58.2.2.1.2.2.2.2.2.2.2.1.1) (fun b84 => (tagI (v58.2.2.1.2.2.2.2.2.2.2.2.1.1) (fun b85 => (qOpt (asI a1) fun o86 => (gd (decide (o86 < v58.2.1.2.2.2.2.2.2.2.1.2.length)) (qOpt (v58.2.1.2.2.2.2.2.2.2.1.2[0 + o86]?) fun o87 => (gd (decide (0 + 10 ≤ o87.length) && true) (tRow sh28 (List.take 10 (List.drop 0 o87)) fun v88 => (some ((.tup []), [(bx sh3 (((v58.2.1.1.1), (v58.2.1.1.2)), (v58.2.1.2.1), (v58.2.1.2.2.1), (v58.2.1.2.2.2.1), (v58.2.1.2.2.2.2.1), ((v58.2.1.2.2.2.2.2.1.1), (v58.2.1.2.2.2.2.2.1.2)), ((v58.2.1.2.2.2.2.2.2.1.1), (v58.2.1.2.2.2.2.2.2.1.2)), (.own, (rset (rset (rset (rset (rset (rset (rset (rset (rset (rset v58.2.1.2.2.2.2.2.2.2.1.2 (0 + o86) 0 (D.int .i64 v58.2.2.1.1)) (0 + o86) 1 (D.str v58.2.2.1.2.1)) (0 + o86) 2 (D.str v58.2.2.1.2.2.1)) (0 + o86) 3 (D.str v58.2.2.1.2.2.2.1)) (0 + o86) 4 (D.str v58.2.2.1.2.2.2.2.1)) (0 + o86) 5 (D.int .i64 v58.2.2.1.2.2.2.2.2.1)) (0 + o86) 6 (D.sl (.im b83) 1 v58.2.2.1.2.2.2.2.2.2.1.2)) (0 + o86) 7 (D.sl (.im b84) 3 v58.2.2.1.2.2.2.2.2.2.2.1.2)) (0 + o86) 8 (D.sl (.im b85) 3 v58.2.2.1.2.2.2.2.2.2.2.2.1.2)) (0 + o86) 9 (D.int .i64 v58.2.2.1.2.2.2.2.2.2.2.2.2.1))), ()))])))))))) (qOpt (asI a1) fun o89 => (gd (decide (o89 < v58.2.1.2.2.2.2.2.2.2.1.2.length)) (gd (decide (0 + v58.2.2.1.2.2.2.2.2.2.2.2.1.2.length ≤ v58.2.2.1.2.2.2.2.2.2.2.2.1.2.length)) (qOpt (v58.2.1.2.2.2.2.2.2.2.1.2[0 + o89]?) fun o90 => (gd (decide (0 + 10 ≤ o90.length) && true) (tRow sh28 (List.take 10 (List.drop 0 o90)) fun v91 => (some ((.tup []), [(bx sh3 (((v58.2.1.1.1), (v58.2.1.1.2)), (v58.2.1.2.1), (v58.2.1.2.2.1), (v58.2.1.2.2.2.1), (v58.2.1.2.2.2.2.1), ((v58.2.1.2.2.2.2.2.1.1), (v58.2.1.2.2.2.2.2.1.2)), ((v58.2.1.2.2.2.2.2.2.1.1), (v58.2.1.2.2.2.2.2.2.1.2)), (.own, (rset (rset (rset (rset (rset (rset (rset (rset (rset (rset v58.2.1.2.2.2.2.2.2.2.1.2 (0 + o89) 0 (D.int .i64 v58.2.2.1.1)) (0 + o89) 1 (D.str v58.2.2.1.2.1)) (0 + o89) 2 (D.str v58.2.2.1.2.2.1)) (0 + o89) 3 (D.str v58.2.2.1.2.2.2.1)) (0 + o89) 4 (D.str v58.2.2.1.2.2.2.2.1)) (0 + o89) 5 (D.int .i64 v58.2.2.1.2.2.2.2.2.1)) (0 + o89) 6 (D.sl (.im b83) 1 v58.2.2.1.2.2.2.2.2.2.1.2)) (0 + o89) 7 (D.sl (.im b84) 3 v58.2.2.1.2.2.2.2.2.2.2.1.2)) (0 + o89) 8 (D.sl (.im false) 3 (plainRs (whole v58.2.2.1.2.2.2.2.2.2.2.2.1.2)))) (0 + o89) 9 (D.int .i64 v58.2.2.1.2.2.2.2.2.2.2.2.2.1))), ()))])))))))))) (tagI (v58.2.2.1.2.2.2.2.2.2.2.2.1.1) (fun b92 => (qOpt (asI a1) fun o93 => (gd (decide (o93 < v58.2.1.2.2.2.2.2.2.2.1.2.length)) (gd (decide (0 + v58.2.2.1.2.2.2.2.2.2.2.1.2.length ≤ v58.2.2.1.2.2.2.2.2.2.2.1.2.length)) (qOpt (v58.2.1.2.2.2.2.2.2.2.1.2[0 + o93]?) fun o94 => (gd (decide (0 + 10 ≤ o94.length) && true) (tRow sh28 (List.take 10 (List.drop 0 o94)) fun v95 => (some ((.tup []), [(bx sh3 (((v58.2.1.1.1), (v58.2.1.1.2)), (v58.2.1.2.1), (v58.2.1.2.2.1), (v58.2.1.2.2.2.1), (v58.2.1.2.2.2.2.1), ((v58.2.1.2.2.2.2.2.1.1), (v58.2.1.2.2.2.2.2.1.2)), ((v58.2.1.2.2.2.2.2.2.1.1), (v58.2.1.2.2.2.2.2.2.1.2)), (.own, (rset (rset (rset (rset (rset (rset (rset (rset (rset (rset v58.2.1.2.2.2.2.2.2.2.1.2 (0 + o93) 0 (D.int .i64 v58.2.2.1.1)) (0 + o93) 1 (D.str v58.2.2.1.2.1)) (0 + o93) 2 (D.str v58.2.2.1.2.2.1)) (0 + o93) 3 (D.str v58.2.2.1.2.2.2.1)) (0 + o93) 4 (D.str v58.2.2.1.2.2.2.2.1)) (0 + o93) 5 (D.int .i64 v58.2.2.1.2.2.2.2.2.1)) (0 + o93) 6 (D.sl (.im b83) 1 v58.2.2.1.2.2.2.2.2.2.1.2)) (0 + o93) 7 (D.sl (.im false) 3 (plainRs (whole v58.2.2.1.2.2.2.2.2.2.2.1.2)))) (0 + o93) 8 (D.sl (.im b92) 3 v58.2.2.1.2.2.2.2.2.2.2.2.1.2)) (0 + o93) 9 (D.int .i64 v58.2.2.1.2.2.2.2.2.2.2.2.2.1))), ()))]))))))))) (qOpt (asI a1) fun o96 => (gd (decide (o96 < v58.2.1.2.2.2.2.2.2.2.1.2.length)) (gd (decide (0 + v58.2.2.1.2.2.2.2.2.2.2.1.2.length ≤ v58.2.2.1.2.2.2.2.2.2.2.1.2.length)) (gd (decide (0 + v58.2.2.1.2.2.2.2.2.2.2.2.1.2.length ≤ v58.2.2.1.2.2.2.2.2.2.2.2.1.2.length)) (qOpt (v58.2.1.2.2.2.2.2.2.2.1.2[0 + o96]?) fun o97 => (gd (decide (0 + 10 ≤ o97.length) && true) (tRow sh28 (List.take 10 (List.drop 0 o97)) fun v98 => (some ((.tup []), [(bx sh3 (((v58.2.1.1.1), (v58.2.1.1.2)), (v58.2.1.2.1), (v58.2.1.2.2.1), (v58.2.1.2.2.2.1), (v58.2.1.2.2.2.2.1), ((v58.2.1.2.2.2.2.2.1.1), (v58.2.1.2.2.2.2.2.1.2)), ((v58.2.1.2.2.2.2.2.2.1.1), (v58.2.1.2.2.2.2.2.2.1.2)), (.own, (rset (rset (rset (rset (rset (rset (rset (rset (rset (rset v58.2.1.2.2.2.2.2.2.2.1.2 (0 + o96) 0 (D.int .i64 v58.2.2.1.1)) (0 + o96) 1 (D.str v58.2.2.1.2.1)) (0 + o96) 2 (D.str v58.2.2.1.2.2.1)) (0 + o96) 3 (D.str v58.2.2.1.2.2.2.1)) (0 + o96) 4 (D.str v58.2.2.1.2.2.2.2.1)) (0 + o96) 5 (D.int .i64 v58.2.2.1.2.2.2.2.2.1)) (0 + o96) 6 (D.sl (.im b83) 1 v58.2.2.1.2.2.2.2.2.2.1.2)) (0 + o96) 7 (D.sl (.im false) 3 (plainRs (whole v58.2.2.1.2.2.2.2.2.2.2.1.2)))) (0 + o96) 8 (D.sl (.im false) 3 (plainRs (whole v58.2.2.1.2.2.2.2.2.2.2.2.1.2)))) (0 + o96) 9 (D.int .i64 v58.2.2.1.2.2.2.2.2.2.2.2.2.1))), ()))])))))))))))) (tagI (v58.2.2.1.2.2.2.2.2.2.2.1.1) (fun b99 => (tagI (v58.2.2.1.2.2.2.2.2.2.2.2.1.1) (fun b100 => (qOpt (asI a1) fun o101 => (gd (decide (o101 < v58.2.1.2.2.2.2.2.2.2.1.2.length)) (gd (decide (0 + v58.2.2.1.2.2.2.2.2.2.1.2.length ≤ v58.2.2.1.2.2.2.2.2.2.1.2.length)) (qOpt (v58.2.1.2.2.2.2.2.2.2.1.2[0 + o101]?) fun o102 => (gd (decide (0 + 10 ≤ o102.length) && true) (tRow sh28 (List.take 10 (List.drop 0 o102)) fun v103 => (some ((.tup []), [(bx sh3 (((v58.2.1.1.1), (v58.2.1.1.2)), (v58.2.1.2.1), (v58.2.1.2.2.1), (v58.2.1.2.2.2.1), (v58.2.1.2.2.2.2.1), ((v58.2.1.2.2.2.2.2.1.1), (v58.2.1.2.2.2.2.2.1.2)), ((v58.2.1.2.2.2.2.2.2.1.1), (v58.2.1.2.2.2.2.2.2.1.2)), (.own, (rset (rset (rset (rset (rset (rset (rset (rset (rset (rset v58.2.1.2.2.2.2.2.2.2.1.2 (0 + o101) 0 (D.int .i64 v58.2.2.1.1)) (0 + o101) 1 (D.str v58.2.2.1.2.1)) (0 + o101) 2 (D.str v58.2.2.1.2.2.1)) (0 + o101) 3 (D.str v58.2.2.1.2.2.2.1)) (0 + o101) 4 (D.str v58.2.2.1.2.2.2.2.1)) (0 + o101) 5 (D.int .i64 v58.2.2.1.2.2.2.2.2.1)) (0 + o101) 6 (D.sl (.im false) 1 (plainRs (whole v58.2.2.1.2.2.2.2.2.2.1.2)))) (0 + o101) 7 (D.sl (.im b99) 3 v58.2.2.1.2.2.2.2.2.2.2.1.2)) (0 + o101) 8 (D.sl (.im b100) 3 v58.2.2.1.2.2.2.2.2.2.2.2.1.2)) (0 + o101) 9 (D.int .i64 v58.2.2.1.2.2.2.2.2.2.2.2.2.1))), ()))]))))))))) (qOpt (asI a1) fun o104 => (gd (decide (o104 < v58.2.1.2.2.2.2.2.2.2.1.2.length)) (gd (decide (0 + v58.2.2.1.2.2.2.2.2.2.1.2.length ≤ v58.2.2.1.2.2.2.2.2.2.1.2.length)) (gd (decide (0 + v58.2.2.1.2.2.2.2.2.2.2.2.1.2.length ≤ v58.2.2.1.2.2.2.2.2.2.2.2.1.2.length)) (qOpt (v58.2.1.2.2.2.2.2.2.2.1.2[0 + o104]?) fun o105 => (gd (decide (0 + 10 ≤ o105.length) && true) (tRow sh28 (List.take 10 (List.drop 0 o105)) fun v106 => (some ((.tup []), [(bx sh3 (((v58.2.1.1.1), (v58.2.1.1.2)), (v58.2.1.2.1), (v58.2.1.2.2.1), (v58.2.1.2.2.2.1), (v58.2.1.2.2.2.2.1), ((v58.2.1.2.2.2.2.2.1.1), (v58.2.1.2.2.2.2.2.1.2)), ((v58.2.1.2.2.2.2.2.2.1.1), (v58.2.1.2.2.2.2.2.2.1.2)), (.own, (rset (rset (rset (rset (rset (rset (rset (rset (rset (rset v58.2.1.2.2.2.2.2.2.2.1.2 (0 + o104) 0 (D.int .i64 v58.2.2.1.1)) (0 + o104) 1 (D.str v58.2.2.1.2.1)) (0 + o104) 2 (D.str v58.2.2.1.2.2.1)) (0 + o104) 3 (D.str v58.2.2.1.2.2.2.1)) (0 + o104) 4 (D.str v58.2.2.1.2.2.2.2.1)) (0 + o104) 5 (D.int .i64 v58.2.2.1.2.2.2.2.2.1)) (0 + o104) 6 (D.sl (.im false) 1 (plainRs (whole v58.2.2.1.2.2.2.2.2.2.1.2)))) (0 + o104) 7 (D.sl (.im b99) 3 v58.2.2.1.2.2.2.2.2.2.2.1.2)) (0 + o104) 8 (D.sl (.im false) 3 (plainRs (whole v58.2.2.1.2.2.2.2.2.2.2.2.1.2)))) (0 + o104) 9 (D.int .i64 v58.2.2.1.2.2.2.2.2.2.2.2.2.1))), ()))]))))))))))) (tagI (v58.2.2.1.2.2.2.2.2.2.2.2.1.1) (fun b107 => (qOpt (asI a1) fun o108 => (gd (decide (o108 < v58.2.1.2.2.2.2.2.2.2.1.2.length)) (gd (decide (0 + v58.2.2.1.2.2.2.2.2.2.1.2.length ≤ v58.2.2.1.2.2.2.2.2.2.1.2.length)) (gd (decide (0 + v58.2.2.1.2.2.2.2.2.2.2.1.2.length ≤ v58.2.2.1.2.2.2.2.2.2.2.1.2.length)) (qOpt (v58.2.1.2.2.2.2.2.2.2.1.2[0 + o108]?) fun o109 => (gd (decide (0 + 10 ≤ o109.length) && true) (tRow sh28 (List.take 10 (List.drop 0 o109)) fun v110 => (some ((.tup []), [(bx sh3 (((v58.2.1.1.1), (v58.2.1.1.2)), (v58.2.1.2.1), (v58.2.1.2.2.1), (v58.2.1.2.2.2.1), (v58.2.1.2.2.2.2.1), ((v58.2.1.2.2.2.2.2.1.1), (v58.2.1.2.2.2.2.2.1.2)), ((v58.2.1.2.2.2.2.2.2.1.1), (v58.2.1.2.2.2.2.2.2.1.2)), (.own, (rset (rset (rset (rset (rset (rset (rset (rset (rset (rset v58.2.1.2.2.2.2.2.2.2.1.2 (0 + o108) 0 (D.int .i64 v58.2.2.1.1)) (0 + o108) 1 (D.str v58.2.2.1.2.1)) (0 + o108) 2 (D.str v58.2.2.1.2.2.1)) (0 + o108) 3 (D.str v58.2.2.1.2.2.2.1)) (0 + o108) 4 (D.str v58.2.2.1.2.2.2.2.1)) (0 + o108) 5 (D.int .i64 v58.2.2.1.2.2.2.2.2.1)) (0 + o108) 6 (D.sl (.im false) 1 (plainRs (whole v58.2.2.1.2.2.2.2.2.2.1.2)))) (0 + o108) 7 (D.sl (.im false) 3 (plainRs (whole v58.2.2.1.2.2.2.2.2.2.2.1.2)))) (0 + o108) 8 (D.sl (.im b107) 3 v58.2.2.1.2.2.2.2.2.2.2.2.1.2)) (0 + o108) 9 (D.int .i64 v58.2.2.1.2.2.2.2.2.2.2.2.2.1))), ()))])))))))))) (qOpt (asI a1) fun o111 => (gd (decide (o111 < v58.2.1.2.2.2.2.2.2.2.1.2.length)) (gd (decide (0 + v58.2.2.1.2.2.2.2.2.2.1.2.length ≤ v58.2.2.1.2.2.2.2.2.2.1.2.length)) (gd (decide (0 + v58.2.2.1.2.2.2.2.2.2.2.1.2.length ≤ v58.2.2.1.2.2.2.2.2.2.2.1.2.length)) (gd (decide (0 + v58.2.2.1.2.2.2.2.2.2.2.2.1.2.length ≤ v58.2.2.1.2.2.2.2.2.2.2.2.1.2.length)) (qOpt (v58.2.1.2.2.2.2.2.2.2.1.2[0 + o111]?) fun o112 => (gd (decide (0 + 10 ≤ o112.length) && true) (tRow sh28 (List.take 10 (List.drop 0 o112)) fun v113 => (some ((.tup []), [(bx sh3 (((v58.2.1.1.1), (v58.2.1.1.2)), (v58.2.1.2.1), (v58.2.1.2.2.1), (v58.2.1.2.2.2.1), (v58.2.1.2.2.2.2.1), ((v58.2.1.2.2.2.2.2.1.1), (v58.2.1.2.2.2.2.2.1.2)), ((v58.2.1.2.2.2.2.2.2.1.1), (v58.2.1.2.2.2.2.2.2.1.2)), (.own, (rset (rset (rset (rset (rset (rset (rset (rset (rset (rset v58.2.1.2.2.2.2.2.2.2.1.2 (0 + o111) 0 (D.int .i64 v58.2.2.1.1)) (0 + o111) 1 (D.str v58.2.2.1.2.1)) (0 + o111) 2 (D.str v58.2.2.1.2.2.1)) (0 + o111) 3 (D.str v58.2.2.1.2.2.2.1)) (0 + o111) 4 (D.str v58.2.2.1.2.2.2.2.1)) (0 + o111) 5 (D.int .i64 v58.2.2.1.2.2.2.2.2.1)) (0 + o111) 6 (D.sl (.im false) 1 (plainRs (whole v58.2.2.1.2.2.2.2.2.2.1.2)))) (0 + o111) 7 (D.sl (.im false) 3 (plainRs (whole v58.2.2.1.2.2.2.2.2.2.2.1.2)))) (0 + o111) 8 (D.sl (.im false) 3 (plainRs (whole v58.2.2.1.2.2.2.2.2.2.2.2.1.2)))) (0 + o111) 9 (D.int .i64 v58.2.2.1.2.2.2.2.2.2.2.2.2.1))), ()))])))))))))))))))))
def l48_1 (Cl : Oracle) (n : Nat) (x0 : RowT sh3) (H0 : S48_0 → OR) (m : Nat) : S48_1 → OR := Nat.rec (fun _ => none) (fun _ ih s => match s with | .s0 a0 a1 a2 => w48_1_0 Cl n x0 H0 a0 a1 a2) m
theorem hl48_1 (Cl : Oracle) (n : Nat) (x0 : RowT sh3) (m0 : Nat) : ∀ (m : Nat) (s : S48_1), h48_1 Cl n [(bx sh3 x0)] m0 m s.st = l48_1 Cl n x0 (fun s => h48_0 Cl n [(bx sh3 x0)]  m0 s.st) m s := by
  intro m
  induction m with
  | zero => intro s; kernel_rfl
  | succ m ih =>
    intro s
    cases s with
    | s0 a0 a1 a2 =>
      have h : h48_1 Cl n [(bx sh3 x0)] m0 (m + 1) (s48_1_0 a0 a1 a2) = w48_1_0 Cl n x0 (fun s => h48_0 Cl n [(bx sh3 x0)]  m0 s.st) a0 a1 a2 := by kernel_rfl
      exact h
def l48_0 (Cl : Oracle) (n : Nat) (x0 : RowT sh3)  (m : Nat) : S48_0 → OR := Nat.rec (fun _ => none) (fun _ ih s => match s with | .s0 a0 => w48_0_0 Cl n x0 (l48_1 Cl n x0 ih n) a0) m
theorem hl48_0 (Cl : Oracle) (n : Nat) (x0 : RowT sh3)  : ∀ (m : Nat) (s : S48_0), h48_0 Cl n [(bx sh3 x0)]  m s.st = l48_0 Cl n x0  m s := by
  intro m
  induction m with
  | zero => intro s; kernel_rfl
  | succ m ih =>
    intro s
    have e0 : (fun s => h48_0 Cl n [(bx sh3 x0)]  m s.st) = l48_0 Cl n x0  m := funext ih
    have e1 : (fun s => h48_1 Cl n [(bx sh3 x0)] m n s.st) = l48_1 Cl n x0 (fun s => h48_0 Cl n [(bx sh3 x0)]  m s.st) n := funext (hl48_1 Cl n x0 m n)
    cases s with
    | s0 a0 =>
      have h : h48_0 Cl n [(bx sh3 x0)]  (m + 1) (s48_0_0 a0) = w48_0_0 Cl n x0 (fun s => h48_1 Cl n [(bx sh3 x0)] m n s.st) a0 := by kernel_rfl
      rw [e1, e0] at h
      exact h
def tt48 (Cl : Oracle) (n : Nat) (H0 : S48_0 → OR) (x0 : RowT sh3) : OR :=
  (H0 (.s0 x0))
def t48 (Cl : Oracle) (n : Nat) (x0 : RowT sh3) : OR := tt48 Cl n (l48_0 Cl n x0 n) x0
theorem pt48 (Cl : Oracle) (n : Nat) (x0 : RowT sh3) : evBodyA an48 Cl n k48 [pE] [(bx sh3 x0)] = t48 Cl n x0 := by
  have h : evBodyA an48 Cl n k48 [pE] [(bx sh3 x0)] = tt48 Cl n (fun s => h48_0 Cl n [(bx sh3 x0)] n s.st) x0 := by kernel_rfl
  have e0 : (fun s => h48_0 Cl n [(bx sh3 x0)] n s.st) = l48_0 Cl n x0 n := funext (hl48_0 Cl n x0 n)
  rw [e0] at h
  exact h
def s35_0_0  : Go.Abs.St := []
inductive S35_0 where | s0
def S35_0.st : S35_0 → Go.Abs.St | .s0  => s35_0_0
def w35_0_0 (Cl : Oracle) (n : Nat)    : OR :=
  (some ((.one (iC (-1))), []))
def l35_0 (Cl : Oracle) (n : Nat)   (m : Nat) : S35_0 → OR := Nat.rec (fun _ => none) (fun _ ih s => match s with | .s0  => w35_0_0 Cl n   ) m
theorem hl35_0 (Cl : Oracle) (n : Nat)   : ∀ (m : Nat) (s : S35_0), h35_0 Cl n []  m s.st = l35_0 Cl n   m s := by
  intro m
  induction m with
  | zero => intro s; kernel_rfl
  | succ m ih =>
    intro s
    cases s with
    | s0  =>
      have h : h35_0 Cl n []  (m + 1) (s35_0_0 ) = w35_0_0 Cl n    := by kernel_rfl
      exact h
def tt35 (Cl : Oracle) (n : Nat) (H0 : S35_0 → OR) (x0 : Int) : OR :=
  (bif (x0 == (0 : Int)) then (some ((.one (iC 0)), [])) else (bif (x0 == (1 : Int)) then (some ((.one (iC 0)), [])) else (bif (x0 == (2 : Int)) then (some ((.one (iC 0)), [])) else (bif (x0 == (3 : Int)) then (some ((.one (iC 0)), [])) else (bif (x0 == (4 : Int)) then (some ((.one (iC 0)), [])) else (bif (x0 == (5 : Int)) then (some ((.one (iC 0)), [])) else (bif (x0 == (15 : Int)) then (some ((.one (iC 1)), [])) else (bif (x0 == (16 : Int)) then (some ((.one (iC 1)), [])) else (bif (x0 == (6 : Int)) then (some ((.one (iC 2)), [])) else (bif (x0 == (7 : Int)) then (some ((.one (iC 2)), [])) else (bif (x0 == (8 : Int)) then (some ((.one (iC 2)), [])) else (bif (x0 == (9 : Int)) then (some ((.one (iC 2)), [])) else (bif (x0 == (10 : Int)) then (some ((.one (iC 2)), [])) else (bif (x0 == (11 : Int)) then (some ((.one (iC 2)), [])) else (bif (x0 == (12 : Int)) then (some ((.one (iC 2)), [])) else (bif (x0 == (13 : Int)) then (some ((.one (iC 2)), [])) else (bif (x0 == (14 : Int)) then (some ((.one (iC 2)), [])) else (bif (x0 == (17 : Int)) then (some ((.one (iC 2)), [])) else (bif (x0 == (18 : Int)) then (some ((.one (iC 2)), [])) else (bif (x0 == (19 : Int)) then (some ((.one (iC 2)), [])) else (H0 (.s0 ))))))))))))))))))))))
def t35 (Cl : Oracle) (n : Nat) (x0 : Int) : OR := tt35 Cl n (l35_0 Cl n  n) x0
theorem pt35 (Cl : Oracle) (n : Nat) (x0 : Int) : evBodyA an35 Cl n k35 [(.one (iC x0))] [] = t35 Cl n x0 := by
  have h : evBodyA an35 Cl n k35 [(.one (iC x0))] [] = tt35 Cl n (fun s => h35_0 Cl n [] n s.st) x0 := by kernel_rfl
  have e0 : (fun s => h35_0 Cl n [] n s.st) = l35_0 Cl n  n := funext (hl35_0 Cl n  n)
  rw [e0] at h
  exact h
def t36 (Cl : Oracle) (n : Nat) (x0 : Int) (x1 : BB) (x2 : Int) (x3 : BB) (x4 : Int) (x5 : Int) : OR :=
  (bif (x0 == (0 : Int)) then (tRes rs0 (Cl 49 [(.one (sC x1))] []) fun v0 => (bif (v0.1) then (bif (x2 == (0 : Int)) then (some ((.one (bC (x3 == []))), [])) else rF) else rF)) else (bif (x0 == (1 : Int)) then (bif (x1 == []) then (some ((.one (bC (x3 == []))), [])) else rF) else (bif (x0 == (2 : Int)) then (bif (x1 == []) then (bif (x3 == []) then (bif (x2 == (0 : Int)) then rT else (some ((.one (bC (x2 == (1 : Int)))), []))) else rF) else rF) else (bif (x0 == (3 : Int)) then (bif (x1 == []) then (bif (x2 == (0 : Int)) then (some ((.one (bC (decide (natI x3.length ≤ (24 : Int))))), [])) else rF) else rF) else (bif (x1 == []) then (bif (x2 == (0 : Int)) then (some ((.one (bC (x3 == []))), [])) else rF) else rF)))))
theorem pt36 (Cl : Oracle) (n : Nat) (x0 : Int) (x1 : BB) (x2 : Int) (x3 : BB) (x4 : Int) (x5 : Int) : evBodyA an36 Cl n k36 [(.agg [(iC x0), (sC x1), (iC x2), (sC x3), (iC x4), (iC x5)])] [] = t36 Cl n x0 x1 x2 x3 x4 x5 := by kernel_rfl
def t52 (Cl : Oracle) (n : Nat) (x0 : Bool) : OR :=
  (tRes rs2 (Cl 63 [(.one (bC x0))] []) fun v0 => (some ((.one (sC (v0.1))), [])))
theorem pt52 (Cl : Oracle) (n : Nat) (x0 : Bool) : evBodyA an52 Cl n k52 [(.one (bC x0))] [] = t52 Cl n x0 := by kernel_rfl
def s53_0_0 (a0 : BB) (a1 : RR) (a2 : Int) : Go.Abs.St := [((.s 0), ⟨(.one (sC a0)), 0⟩), ((.s 3), ⟨(.one (lC .own 1 a1)), 0⟩), ((.s 4), ⟨(.one (iC a2)), 0⟩)]
def s53_1_0 (a0 : BB) (a1 : RR) (a2 : Int) : Go.Abs.St := [((.s 0), ⟨(.one (sC a0)), 0⟩), ((.s 3), ⟨(.one (lC .own 1 a1)), 0⟩), ((.s 4), ⟨(.one (iC a2)), 0⟩)]
inductive S53_0 where | s0 (a0 : BB) (a1 : RR) (a2 : Int)
def S53_0.st : S53_0 → Go.Abs.St | .s0 a0 a1 a2 => s53_0_0 a0 a1 a2
inductive S53_1 where | s0 (a0 : BB) (a1 : RR) (a2 : Int)
def S53_1.st : S53_1 → Go.Abs.St | .s0 a0 a1 a2 => s53_1_0 a0 a1 a2
def w53_0_0 (Cl : Oracle) (n : Nat)  (H1 : S53_1 → OR) (a0 : BB) (a1 : RR) (a2 : Int) : OR :=
  (bif (decide (a2 < natI a0.length)) then (qOpt (asI a2) fun o0 => (qOpt (a0[o0]?) fun o1 => (bif (natI o1.toNat == (34 : Int)) then (gd (u8ok 1 (([[D.int .u8 (0 : Int)], [D.int .u8 (0 : Int)]].set 0 [D.int .u8 (92 : Int)]).set 1 [D.int .u8 (natI o1.toNat)]) a1.isEmpty && true && true && a1.length == a1.length && true && decide ((a1.length + 2) * 1 ≤ 140737488355328)) (H1 (.s0 a0 (a1 ++ ([[D.int .u8 (0 : Int)], [D.int .u8 (0 : Int)]].set 0 [D.int .u8 (92 : Int)]).set 1 [D.int .u8 (natI o1.toNat)]) a2))) else (bif (natI o1.toNat == (92 : Int)) then (gd (u8ok 1 (([[D.int .u8 (0 : Int)], [D.int .u8 (0 : Int)]].set 0 [D.int .u8 (92 : Int)]).set 1 [D.int .u8 (natI o1.toNat)]) a1.isEmpty && true && true && a1.length == a1.length && true && decide ((a1.length + 2) * 1 ≤ 140737488355328)) (H1 (.s0 a0 (a1 ++ ([[D.int .u8 (0 : Int)], [D.int .u8 (0 : Int)]].set 0 [D.int .u8 (92 : Int)]).set 1 [D.int .u8 (natI o1.toNat)]) a2))) else (bif (natI o1.toNat == (10 : Int)) then (gd (u8ok 1 (([[D.int .u8 (0 : Int)], [D.int .u8 (0 : Int)]].set 0 [D.int .u8 (92 : Int)]).set 1 [D.int .u8 (110 : Int)]) a1.isEmpty && true && true && a1.length == a1.length && true && decide ((a1.length + 2) * 1 ≤ 140737488355328)) (H1 (.s0 a0 (a1 ++ ([[D.int .u8 (0 : Int)], [D.int .u8 (0 : Int)]].set 0 [D.int .u8 (92 : Int)]).set 1 [D.int .u8 (110 : Int)]) a2))) else (bif (decide (natI o1.toNat < (32 : Int))) then (qOpt (asI ((natI o1.toNat).fdiv ((2 : Int) ^ min (Int.toNat (4 : Int)) IntKind.u8.bits))) fun o2 => (qOpt (([48, 49, 50, 51, 52, 53, 54, 55, 56, 57, 97, 98, 99, 100, 101, 102] : BB)[o2]?) fun o3 => (qOpt (([48, 49, 50, 51, 52, 53, 54, 55, 56, 57, 97, 98, 99, 100, 101, 102] : BB)[(w8 (natI (BitVec.ofInt IntKind.u8.bits (natI o1.toNat) &&& BitVec.ofInt IntKind.u8.bits (15 : Int)).toNat)).toNat]?) fun o4 => (gd (u8ok 1 (((([[D.int .u8 (0 : Int)], [D.int .u8 (0 : Int)], [D.int .u8 (0 : Int)], [D.int .u8 (0 : Int)]].set 0 [D.int .u8 (92 : Int)]).set 1 [D.int .u8 (120 : Int)]).set 2 [D.int .u8 (natI o3.toNat)]).set 3 [D.int .u8 (natI o4.toNat)]) a1.isEmpty && true && true && a1.length == a1.length && true && decide ((a1.length + 4) * 1 ≤ 140737488355328)) (H1 (.s0 a0 (a1 ++ ((([[D.int .u8 (0 : Int)], [D.int .u8 (0 : Int)], [D.int .u8 (0 : Int)], [D.int .u8 (0 : Int)]].set 0 [D.int .u8 (92 : Int)]).set 1 [D.int .u8 (120 : Int)]).set 2 [D.int .u8 (natI o3.toNat)]).set 3 [D.int .u8 (natI o4.toNat)]) a2)))))) else (bif (decide (natI o1.toNat > (126 : Int))) then (qOpt (asI ((natI o1.toNat).fdiv ((2 : Int) ^ min (Int.toNat (4 : Int)) IntKind.u8.bits))) fun o5 => (qOpt (([48, 49, 50, 51, 52, 53, 54, 55, 56, 57, 97, 98, 99, 100, 101, 102] : BB)[o5]?) fun o6 => (qOpt (([48, 49, 50, 51, 52, 53, 54, 55, 56, 57, 97, 98, 99, 100, 101, 102] : BB)[(w8 (natI (BitVec.ofInt IntKind.u8.bits (natI o1.toNat) &&& BitVec.ofInt IntKind.u8.bits (15 : Int)).toNat)).toNat]?) fun o7 => (gd (u8ok 1 (((([[D.int .u8 (0 : Int)], [D.int .u8 (0 : Int)], [D.int .u8 (0 : Int)], [D.int .u8 (0 : Int)]].set 0 [D.int .u8 (92 : Int)]).set 1 [D.int .u8 (120 : Int)]).set 2 [D.int .u8 (natI o6.toNat)]).set 3 [D.int .u8 (natI o7.toNat)]) a1.isEmpty && true && true && a1.length == a1.length && true && decide ((a1.length + 4) * 1 ≤ 140737488355328)) (H1 (.s0 a0 (a1 ++ ((([[D.int .u8 (0 : Int)], [D.int .u8 (0 : Int)], [D.int .u8 (0 : Int)], [D.int .u8 (0 : Int)]].set 0 [D.int .u8 (92 : Int)]).set 1 [D.int .u8 (120 : Int)]).set 2 [D.int .u8 (natI o6.toNat)]).set 3 [D.int .u8 (natI o7.toNat)]) a2)))))) else (gd (u8ok 1 ([[D.int .u8 (0 : Int)]].set 0 [D.int .u8 (natI o1.toNat)]) a1.isEmpty && true && true && a1.length == a1.length && true && decide ((a1.length + 1) * 1 ≤ 140737488355328)) (H1 (.s0 a0 (a1 ++ [[D.int .u8 (0 : Int)]].set 0 [D.int .u8 (natI o1.toNat)]) a2)))))))))) else (gd (u8ok 1 ([[D.int .u8 (0 : Int)]].set 0 [D.int .u8 (34 : Int)]) a1.isEmpty && true && true && a1.length == a1.length && true && decide ((a1.length + 1) * 1 ≤ 140737488355328)) none))
def w53_1_0 (Cl : Oracle) (n : Nat)  (H0 : S53_0 → OR) (a0 : BB) (a1 : RR) (a2 : Int) : OR :=
  (H0 (.s0 a0 a1 (w64 (a2 + (1 : Int)))))
def l53_1 (Cl : Oracle) (n : Nat)  (H0 : S53_0 → OR) (m : Nat) : S53_1 → OR := Nat.rec (fun _ => none) (fun _ ih s => match s with | .s0 a0 a1 a2 => w53_1_0 Cl n  H0 a0 a1 a2) m
theorem hl53_1 (Cl : Oracle) (n : Nat)  (m0 : Nat) : ∀ (m : Nat) (s : S53_1), h53_1 Cl n [] m0 m s.st = l53_1 Cl n  (fun s => h53_0 Cl n []  m0 s.st) m s := by
  intro m
  induction m with
  | zero => intro s; kernel_rfl
  | succ m ih =>
    intro s
    cases s with
    | s0 a0 a1 a2 =>
      have h : h53_1 Cl n [] m0 (m + 1) (s53_1_0 a0 a1 a2) = w53_1_0 Cl n  (fun s => h53_0 Cl n []  m0 s.st) a0 a1 a2 := by kernel_rfl
      exact h
def l53_0 (Cl : Oracle) (n : Nat)   (m : Nat) : S53_0 → OR := Nat.rec (fun _ => none) (fun _ ih s => match s with | .s0 a0 a1 a2 => w53_0_0 Cl n  (l53_1 Cl n  ih n) a0 a1 a2) m
theorem hl53_0 (Cl : Oracle) (n : Nat)   : ∀ (m : Nat) (s : S53_0), h53_0 Cl n []  m s.st = l53_0 Cl n   m s := by
  intro m
  induction m with
  | zero => intro s; kernel_rfl
  | succ m ih =>
    intro s
    have e0 : (fun s => h53_0 Cl n []  m s.st) = l53_0 Cl n   m := funext ih
    have e1 : (fun s => h53_1 Cl n [] m n s.st) = l53_1 Cl n  (fun s => h53_0 Cl n []  m s.st) n := funext (hl53_1 Cl n  m n)
    cases s with
    | s0 a0 a1 a2 =>
      have h : h53_0 Cl n []  (m + 1) (s53_0_0 a0 a1 a2) = w53_0_0 Cl n  (fun s => h53_1 Cl n [] m n s.st) a0 a1 a2 := by kernel_rfl
      rw [e1, e0] at h
      exact h
def tt53 (Cl : Oracle) (n : Nat) (H0 : S53_0 → OR) (x0 : BB) : OR :=
  (H0 (.s0 x0 [[(.int .u8 34)]] 0))
def t53 (Cl : Oracle) (n : Nat) (x0 : BB) : OR := tt53 Cl n (l53_0 Cl n  n) x0
theorem pt53 (Cl : Oracle) (n : Nat) (x0 : BB) : evBodyA an53 Cl n k53 [(.one (sC x0))] [] = t53 Cl n x0 := by
  have h : evBodyA an53 Cl n k53 [(.one (sC x0))] [] = tt53 Cl n (fun s => h53_0 Cl n [] n s.st) x0 := by kernel_rfl
  have e0 : (fun s => h53_0 Cl n [] n s.st) = l53_0 Cl n  n := funext (hl53_0 Cl n  n)
  rw [e0] at h
  exact h
def s49_0_0 (a0 : BB) (a1 : Int) : Go.Abs.St := [((.s 0), ⟨(.one (sC a0)), 0⟩), ((.s 3), ⟨(.one (iC a1)), 0⟩)]
inductive S49_0 where | s0 (a0 : BB) (a1 : Int)
def S49_0.st : S49_0 → Go.Abs.St | .s0 a0 a1 => s49_0_0 a0 a1
def w49_0_0 (Cl : Oracle) (n : Nat)  (H0 : S49_0 → OR) (a0 : BB) (a1 : Int) : OR :=
  (bif (decide (a1 < natI a0.length)) then (qOpt (asI a1) fun o3 => (qOpt (a0[o3]?) fun o4 => (tRes rs0 (Cl 59 [(.one (.d (.int .u8 (natI o4.toNat))))] []) fun v5 => (bif (!v5.1) then (qOpt (asI a1) fun o6 => (qOpt (a0[o6]?) fun o7 => (tRes rs0 (Cl 60 [(.one (.d (.int .u8 (natI o7.toNat))))] []) fun v8 => (bif (!v8.1) then rF else (H0 (.s0 a0 (w64 (a1 + (1 : Int))))))))) else (H0 (.s0 a0 (w64 (a1 + (1 : Int))))))))) else rT)
def l49_0 (Cl : Oracle) (n : Nat)   (m : Nat) : S49_0 → OR := Nat.rec (fun _ => none) (fun _ ih s => match s with | .s0 a0 a1 => w49_0_0 Cl n  ih a0 a1) m
theorem hl49_0 (Cl : Oracle) (n : Nat)   : ∀ (m : Nat) (s : S49_0), h49_0 Cl n []  m s.st = l49_0 Cl n   m s := by
  intro m
  induction m with
  | zero => intro s; kernel_rfl
  | succ m ih =>
    intro s
    have e0 : (fun s => h49_0 Cl n []  m s.st) = l49_0 Cl n   m := funext ih
    cases s with
    | s0 a0 a1 =>
      have h : h49_0 Cl n []  (m + 1) (s49_0_0 a0 a1) = w49_0_0 Cl n  (fun s => h49_0 Cl n []  m s.st) a0 a1 := by kernel_rfl
      rw [e0] at h
      exact h
def tt49 (Cl : Oracle) (n : Nat) (H0 : S49_0 → OR) (x0 : BB) : OR :=
  (bif (decide (natI x0.length < (1 : Int))) then rF else (bif (decide (natI x0.length > (12 : Int))) then rF else (qOpt (x0[Int.toNat (0 : Int)]?) fun o0 => (tRes rs0 (Cl 59 [(.one (.d (.int .u8 (natI o0.toNat))))] []) fun v1 => (bif (!v1.1) then rF else (tRes rs0 (Cl 41 [(.one (sC x0))] []) fun v2 => (bif (v2.1) then rF else (H0 (.s0 x0 1)))))))))
def t49 (Cl : Oracle) (n : Nat) (x0 : BB) : OR := tt49 Cl n (l49_0 Cl n  n) x0
theorem pt49 (Cl : Oracle) (n : Nat) (x0 : BB) : evBodyA an49 Cl n k49 [(.one (sC x0))] [] = t49 Cl n x0 := by
  have h : evBodyA an49 Cl n k49 [(.one (sC x0))] [] = tt49 Cl n (fun s => h49_0 Cl n [] n s.st) x0 := by kernel_rfl
  have e0 : (fun s => h49_0 Cl n [] n s.st) = l49_0 Cl n  n := funext (hl49_0 Cl n  n)
  rw [e0] at h
  exact h
def s57_0_0 (a0 : RowT sh3) (a1 : RowT sh27) : Go.Abs.St := [((.s 0), ⟨pE, 0⟩), ((.r (.e 0)), ⟨(.one (iC 8)), 0⟩), ((.b (.e 0) 0), ⟨(.one (lC (.im a0.1.1) 3 a0.1.2)), 0⟩), ((.b (.e 0) 1), ⟨(.one (iC a0.2.1)), 0⟩), ((.b (.e 0) 2), ⟨(.one (iC a0.2.2.1)), 0⟩), ((.b (.e 0) 3), ⟨(.one (iC a0.2.2.2.1)), 0⟩), ((.b (.e 0) 4), ⟨(.one (sC a0.2.2.2.2.1)), 0⟩), ((.b (.e 0) 5), ⟨(.one (lC a0.2.2.2.2.2.1.1 3 a0.2.2.2.2.2.1.2)), 0⟩), ((.b (.e 0) 6), ⟨(.one (lC a0.2.2.2.2.2.2.1.1 6 a0.2.2.2.2.2.2.1.2)), 0⟩), ((.b (.e 0) 7), ⟨(.one (lC a0.2.2.2.2.2.2.2.1.1 10 a0.2.2.2.2.2.2.2.1.2)), 0⟩), ((.r (.e 1)), ⟨(.one (iC 10)), 0⟩), ((.b (.e 1) 0), ⟨(.one (iC a1.1)), 0⟩), ((.b (.e 1) 1), ⟨(.one (sC a1.2.1)), 0⟩), ((.b (.e 1) 2), ⟨(.one (sC a1.2.2.1)), 0⟩), ((.b (.e 1) 3), ⟨(.one (sC a1.2.2.2.1)), 0⟩), ((.b (.e 1) 4), ⟨(.one (sC a1.2.2.2.2.1)), 0⟩), ((.b (.e 1) 5), ⟨(.one (iC a1.2.2.2.2.2.1)), 0⟩), ((.b (.e 1) 6), ⟨(.one (lC a1.2.2.2.2.2.2.1.1 1 a1.2.2.2.2.2.2.1.2)), 0⟩), ((.b (.e 1) 7), ⟨(.one (lC a1.2.2.2.2.2.2.2.1.1 3 a1.2.2.2.2.2.2.2.1.2)), 0⟩), ((.b (.e 1) 8), ⟨(.one (lC a1.2.2.2.2.2.2.2.2.1.1 3 a1.2.2.2.2.2.2.2.2.1.2)), 0⟩), ((.b (.e 1) 9), ⟨(.one (iC a1.2.2.2.2.2.2.2.2.2.1)), 0⟩)]
def s57_1_0 (a0 : RowT sh3) (a1 : RowT sh27) : Go.Abs.St := [((.s 0), ⟨pE, 0⟩), ((.r (.e 0)), ⟨(.one (iC 8)), 0⟩), ((.b (.e 0) 0), ⟨(.one (lC (.im a0.1.1) 3 a0.1.2)), 0⟩), ((.b (.e 0) 1), ⟨(.one (iC a0.2.1)), 0⟩), ((.b (.e 0) 2), ⟨(.one (iC a0.2.2.1)), 0⟩), ((.b (.e 0) 3), ⟨(.one (iC a0.2.2.2.1)), 0⟩), ((.b (.e 0) 4), ⟨(.one (sC a0.2.2.2.2.1)), 0⟩), ((.b (.e 0) 5), ⟨(.one (lC a0.2.2.2.2.2.1.1 3 a0.2.2.2.2.2.1.2)), 0⟩), ((.b (.e 0) 6), ⟨(.one (lC a0.2.2.2.2.2.2.1.1 6 a0.2.2.2.2.2.2.1.2)), 0⟩), ((.b (.e 0) 7), ⟨(.one (lC a0.2.2.2.2.2.2.2.1.1 10 a0.2.2.2.2.2.2.2.1.2)), 0⟩), ((.r (.e 1)), ⟨(.one (iC 10)), 0⟩), ((.b (.e 1) 0), ⟨(.one (iC a1.1)), 0⟩), ((.b (.e 1) 1), ⟨(.one (sC a1.2.1)), 0⟩), ((.b (.e 1) 2), ⟨(.one (sC a1.2.2.1)), 0⟩), ((.b (.e 1) 3), ⟨(.one (sC a1.2.2.2.1)), 0⟩), ((.b (.e 1) 4), ⟨(.one (sC a1.2.2.2.2.1)), 0⟩), ((.b (.e 1) 5), ⟨(.one (iC a1.2.2.2.2.2.1)), 0⟩), ((.b (.e 1) 6), ⟨(.one (lC a1.2.2.2.2.2.2.1.1 1 a1.2.2.2.2.2.2.1.2)), 0⟩), ((.b (.e 1) 7), ⟨(.one (lC a1.2.2.2.2.2.2.2.1.1 3 a1.2.2.2.2.2.2.2.1.2)), 0⟩), ((.b (.e 1) 8), ⟨(.one (lC a1.2.2.2.2.2.2.2.2.1.1 3 a1.2.2.2.2.2.2.2.2.1.2)), 0⟩), ((.b (.e 1) 9), ⟨(.one (iC a1.2.2.2.2.2.2.2.2.2.1)), 0⟩)]
inductive S57_0 where | s0 (a0 : RowT sh3) (a1 : RowT sh27)
def S57_0.st : S57_0 → Go.Abs.St | .s0 a0 a1 => s57_0_0 a0 a1
inductive S57_1 where | s0 (a0 : RowT sh3) (a1 : RowT sh27)
def S57_1.st : S57_1 → Go.Abs.St | .s0 a0 a1 => s57_1_0 a0 a1
def w57_0_0 (Cl : Oracle) (n : Nat) (x0 : RowT sh3) (x1 : RowT sh27) (H1 : S57_1 → OR) (a0 : RowT sh3) (a1 : RowT sh27) : OR :=
  (tRes rs7 (Cl 29 [pE, (.one (sC [41]))] [(bx sh3 a0)]) fun v28 => (H1 (.s0 (v28.2.1) a1)))
def w57_1_0 (Cl : Oracle) (n : Nat) (x0 : RowT sh3) (x1 : RowT sh27)  (a0 : RowT sh3) (a1 : RowT sh27) : OR :=
  (tRes rs7 (Cl 29 [pE, (.one (sC [59]))] [(bx sh3 a0)]) fun v27 => (some ((.one (bC true)), [(bx sh3 (v27.2.1)), (bx sh27 a1)])))
def l57_1 (Cl : Oracle) (n : Nat) (x0 : RowT sh3) (x1 : RowT sh27)  (m : Nat) : S57_1 → OR := Nat.rec (fun _ => none) (fun _ ih s => match s with | .s0 a0 a1 => w57_1_0 Cl n x0 x1  a0 a1) m
theorem hl57_1 (Cl : Oracle) (n : Nat) (x0 : RowT sh3) (x1 : RowT sh27)  : ∀ (m : Nat) (s : S57_1), h57_1 Cl n [(bx sh3 x0), (bx sh27 x1)]  m s.st = l57_1 Cl n x0 x1  m s := by
  intro m
  induction m with
  | zero => intro s; kernel_rfl
  | succ m ih =>
    intro s
    cases s with
    | s0 a0 a1 =>
      have h : h57_1 Cl n [(bx sh3 x0), (bx sh27 x1)]  (m + 1) (s57_1_0 a0 a1) = w57_1_0 Cl n x0 x1  a0 a1 := by kernel_rfl
      exact h
def l57_0 (Cl : Oracle) (n : Nat) (x0 : RowT sh3) (x1 : RowT sh27)  (m : Nat) : S57_0 → OR := Nat.rec (fun _ => none) (fun _ ih s => match s with | .s0 a0 a1 => w57_0_0 Cl n x0 x1 (l57_1 Cl n x0 x1  n) a0 a1) m
theorem hl57_0 (Cl : Oracle) (n : Nat) (x0 : RowT sh3) (x1 : RowT sh27)  : ∀ (m : Nat) (s : S57_0), h57_0 Cl n [(bx sh3 x0), (bx sh27 x1)]  m s.st = l57_0 Cl n x0 x1  m s := by
  intro m
  induction m with
  | zero => intro s; kernel_rfl
  | succ m ih =>
    intro s
    have e1 : (fun s => h57_1 Cl n [(bx sh3 x0), (bx sh27 x1)]  n s.st) = l57_1 Cl n x0 x1  n := funext (hl57_1 Cl n x0 x1  n)
    cases s with
    | s0 a0 a1 =>
      have h : h57_0 Cl n [(bx sh3 x0), (bx sh27 x1)]  (m + 1) (s57_0_0 a0 a1) = w57_0_0 Cl n x0 x1 (fun s => h57_1 Cl n [(bx sh3 x0), (bx sh27 x1)]  n s.st) a0 a1 := by kernel_rfl
      rw [e1] at h
      exact h
def tt57 (Cl : Oracle) (n : Nat) (H0 : S57_0 → OR) (H1 : S57_1 → OR) (x0 : RowT sh3) (x1 : RowT sh27) : OR :=
  (tRes rs3 (Cl 9 [pE, (.one (sC [108, 101, 116]))] [(bx sh3 x0)]) fun v0 => (bif (v0.1) then (tRes rs13 (Cl 28 [pE] [(bx sh3 (v0.2.1))]) fun v1 => (tRes rs7 (Cl 29 [pE, (.one (sC [61]))] [(bx sh3 (v1.2.1))]) fun v2 => (tRes rs14 (Cl 69 [pE] [(bx sh3 (v2.2.1))]) fun v3 => (H1 (.s0 (v3.2.1) (1, (v1.1), (x1.2.2.1), (x1.2.2.2.1), (x1.2.2.2.2.1), (v3.1), ((x1.2.2.2.2.2.2.1.1), (x1.2.2.2.2.2.2.1.2)), ((x1.2.2.2.2.2.2.2.1.1), (x1.2.2.2.2.2.2.2.1.2)), ((x1.2.2.2.2.2.2.2.2.1.1), (x1.2.2.2.2.2.2.2.2.1.2)), (x1.2.2.2.2.2.2.2.2.2.1), ())))))) else (tRes rs3 (Cl 9 [pE, (.one (sC [112, 114, 105, 110, 116]))] [(bx sh3 (v0.2.1))]) fun v4 => (bif (v4.1) then (tRes rs14 (Cl 69 [pE] [(bx sh3 (v4.2.1))]) fun v5 => (H1 (.s0 (v5.2.1) (2, (x1.2.1), (x1.2.2.1), (x1.2.2.2.1), (x1.2.2.2.2.1), (v5.1), ((x1.2.2.2.2.2.2.1.1), (x1.2.2.2.2.2.2.1.2)), ((x1.2.2.2.2.2.2.2.1.1), (x1.2.2.2.2.2.2.2.1.2)), ((x1.2.2.2.2.2.2.2.2.1.1), (x1.2.2.2.2.2.2.2.2.1.2)), (x1.2.2.2.2.2.2.2.2.2.1), ())))) else (tRes rs3 (Cl 9 [pE, (.one (sC [115, 97, 121]))] [(bx sh3 (v4.2.1))]) fun v6 => (bif (v6.1) then (tRes rs13 (Cl 28 [pE] [(bx sh3 (v6.2.1))]) fun v7 => (tRes rs7 (Cl 29 [pE, (.one (sC [116, 111]))] [(bx sh3 (v7.2.1))]) fun v8 => (tRes rs13 (Cl 28 [pE] [(bx sh3 (v8.2.1))]) fun v9 => (tRes rs13 (Cl 28 [pE] [(bx sh3 (v9.2.1))]) fun v10 => (tRes rs7 (Cl 29 [pE, (.one (sC [40]))] [(bx sh3 (v10.2.1))]) fun v11 => (tRes rs3 (Cl 27 [pE, (.one (sC [41]))] [(bx sh3 (v11.2.1))]) fun v12 => (bif (!v12.1) then (tRes rs14 (Cl 69 [pE] [(bx sh3 (v12.2.1))]) fun v13 => (H0 (.s0 (v13.2.1) (4, (v7.1), (v9.1), (v10.1), (x1.2.2.2.2.1), (v13.1), ((x1.2.2.2.2.2.2.1.1), (x1.2.2.2.2.2.2.1.2)), ((x1.2.2.2.2.2.2.2.1.1), (x1.2.2.2.2.2.2.2.1.2)), ((x1.2.2.2.2.2.2.2.2.1.1), (x1.2.2.2.2.2.2.2.2.1.2)), (x1.2.2.2.2.2.2.2.2.2.1), ())))) else (H0 (.s0 (v12.2.1) (4, (v7.1), (v9.1), (v10.1), (x1.2.2.2.2.1), (x1.2.2.2.2.2.1), ((x1.2.2.2.2.2.2.1.1), (x1.2.2.2.2.2.2.1.2)), ((x1.2.2.2.2.2.2.2.1.1), (x1.2.2.2.2.2.2.2.1.2)), ((x1.2.2.2.2.2.2.2.2.1.1), (x1.2.2.2.2.2.2.2.2.1.2)), (x1.2.2.2.2.2.2.2.2.2.1), ())))))))))) else (tRes rs3 (Cl 9 [pE, (.one (sC [115, 112, 97, 119, 110]))] [(bx sh3 (v6.2.1))]) fun v14 => (bif (v14.1) then (tRes rs13 (Cl 28 [pE] [(bx sh3 (v14.2.1))]) fun v15 => (tRes rs24 (Cl 70 [pE] [(bx sh3 (v15.2.1))]) fun v16 => (H1 (.s0 (v16.2.1) (7, (x1.2.1), (x1.2.2.1), (x1.2.2.2.1), (v15.1), (x1.2.2.2.2.2.1), ((.im (v16.1.1)), (v16.1.2)), ((x1.2.2.2.2.2.2.2.1.1), (x1.2.2.2.2.2.2.2.1.2)), ((x1.2.2.2.2.2.2.2.2.1.1), (x1.2.2.2.2.2.2.2.2.1.2)), (x1.2.2.2.2.2.2.2.2.2.1), ()))))) else (tRes rs3 (Cl 9 [pE, (.one (sC [111, 112, 101, 110]))] [(bx sh3 (v14.2.1))]) fun v17 => (bif (v17.1) then (tRes rs13 (Cl 28 [pE] [(bx sh3 (v17.2.1))]) fun v18 => (tRes rs7 (Cl 29 [pE, (.one (sC [61]))] [(bx sh3 (v18.2.1))]) fun v19 => (tRes rs13 (Cl 28 [pE] [(bx sh3 (v19.2.1))]) fun v20 => (tRes rs7 (Cl 29 [pE, (.one (sC [97, 115]))] [(bx sh3 (v20.2.1))]) fun v21 => (tRes rs13 (Cl 28 [pE] [(bx sh3 (v21.2.1))]) fun v22 => (tRes rs7 (Cl 29 [pE, (.one (sC [119, 105, 116, 104]))] [(bx sh3 (v22.2.1))]) fun v23 => (tRes rs25 (Cl 71 [pE] [(bx sh3 (v23.2.1))]) fun v24 => (H1 (.s0 (v24.2.1) (8, (v18.1), (v22.1), (v20.1), (x1.2.2.2.2.1), (x1.2.2.2.2.2.1), ((x1.2.2.2.2.2.2.1.1), (x1.2.2.2.2.2.2.1.2)), ((.im (v24.1.1)), (v24.1.2)), ((x1.2.2.2.2.2.2.2.2.1.1), (x1.2.2.2.2.2.2.2.2.1.2)), (x1.2.2.2.2.2.2.2.2.2.1), ())))))))))) else (tRes rs3 (Cl 9 [pE, (.one (sC [100, 114, 111, 112]))] [(bx sh3 (v17.2.1))]) fun v25 => (bif (v25.1) then (tRes rs13 (Cl 28 [pE] [(bx sh3 (v25.2.1))]) fun v26 => (H1 (.s0 (v26.2.1) (9, (v26.1), (x1.2.2.1), (x1.2.2.2.1), (x1.2.2.2.2.1), (x1.2.2.2.2.2.1), ((x1.2.2.2.2.2.2.1.1), (x1.2.2.2.2.2.2.1.2)), ((x1.2.2.2.2.2.2.2.1.1), (x1.2.2.2.2.2.2.2.1.2)), ((x1.2.2.2.2.2.2.2.2.1.1), (x1.2.2.2.2.2.2.2.2.1.2)), (x1.2.2.2.2.2.2.2.2.2.1), ())))) else (some ((.one (bC false)), [(bx sh3 (v25.2.1)), (bx sh27 x1)]))))))))))))))
def t57 (Cl : Oracle) (n : Nat) (x0 : RowT sh3) (x1 : RowT sh27) : OR := tt57 Cl n (l57_0 Cl n x0 x1 n) (l57_1 Cl n x0 x1 n) x0 x1
theorem pt57 (Cl : Oracle) (n : Nat) (x0 : RowT sh3) (x1 : RowT sh27) : evBodyA an57 Cl n k57 [pE, (.one (.ptr (.e 1) 0 0))] [(bx sh3 x0), (bx sh27 x1)] = t57 Cl n x0 x1 := by
  have h : evBodyA an57 Cl n k57 [pE, (.one (.ptr (.e 1) 0 0))] [(bx sh3 x0), (bx sh27 x1)] = tt57 Cl n (fun s => h57_0 Cl n [(bx sh3 x0), (bx sh27 x1)] n s.st) (fun s => h57_1 Cl n [(bx sh3 x0), (bx sh27 x1)] n s.st) x0 x1 := by kernel_rfl
  have e0 : (fun s => h57_0 Cl n [(bx sh3 x0), (bx sh27 x1)] n s.st) = l57_0 Cl n x0 x1 n := funext (hl57_0 Cl n x0 x1 n)
  have e1 : (fun s => h57_1 Cl n [(bx sh3 x0), (bx sh27 x1)] n s.st) = l57_1 Cl n x0 x1 n := funext (hl57_1 Cl n x0 x1 n)
  rw [e0, e1] at h
  exact h
def s58_0_0 (a0 : RowT sh3) (a1 : RowT sh27) : Go.Abs.St := [((.s 0), ⟨pE, 0⟩), ((.s 1), ⟨(.one (.ptr (.e 1) 0 0)), 0⟩), ((.r (.e 0)), ⟨(.one (iC 8)), 0⟩), ((.b (.e 0) 0), ⟨(.one (lC (.im a0.1.1) 3 a0.1.2)), 0⟩), ((.b (.e 0) 1), ⟨(.one (iC a0.2.1)), 0⟩), ((.b (.e 0) 2), ⟨(.one (iC a0.2.2.1)), 0⟩), ((.b (.e 0) 3), ⟨(.one (iC a0.2.2.2.1)), 0⟩), ((.b (.e 0) 4), ⟨(.one (sC a0.2.2.2.2.1)), 0⟩), ((.b (.e 0) 5), ⟨(.one (lC a0.2.2.2.2.2.1.1 3 a0.2.2.2.2.2.1.2)), 0⟩), ((.b (.e 0) 6), ⟨(.one (lC a0.2.2.2.2.2.2.1.1 6 a0.2.2.2.2.2.2.1.2)), 0⟩), ((.b (.e 0) 7), ⟨(.one (lC a0.2.2.2.2.2.2.2.1.1 10 a0.2.2.2.2.2.2.2.1.2)), 0⟩), ((.r (.e 1)), ⟨(.one (iC 10)), 0⟩), ((.b (.e 1) 0), ⟨(.one (iC a1.1)), 0⟩), ((.b (.e 1) 1), ⟨(.one (sC a1.2.1)), 0⟩), ((.b (.e 1) 2), ⟨(.one (sC a1.2.2.1)), 0⟩), ((.b (.e 1) 3), ⟨(.one (sC a1.2.2.2.1)), 0⟩), ((.b (.e 1) 4), ⟨(.one (sC a1.2.2.2.2.1)), 0⟩), ((.b (.e 1) 5), ⟨(.one (iC a1.2.2.2.2.2.1)), 0⟩), ((.b (.e 1) 6), ⟨(.one (lC a1.2.2.2.2.2.2.1.1 1 a1.2.2.2.2.2.2.1.2)), 0⟩), ((.b (.e 1) 7), ⟨(.one (lC a1.2.2.2.2.2.2.2.1.1 3 a1.2.2.2.2.2.2.2.1.2)), 0⟩), ((.b (.e 1) 8), ⟨(.one (lC a1.2.2.2.2.2.2.2.2.1.1 3 a1.2.2.2.2.2.2.2.2.1.2)), 0⟩), ((.b (.e 1) 9), ⟨(.one (iC a1.2.2.2.2.2.2.2.2.2.1)), 0⟩)]
def s58_1_0 (a0 : RowT sh3) (a1 : RowT sh27) : Go.Abs.St := [((.s 0), ⟨pE, 0⟩), ((.s 1), ⟨(.one (.ptr (.e 1) 0 0)), 0⟩), ((.r (.e 0)), ⟨(.one (iC 8)), 0⟩), ((.b (.e 0) 0), ⟨(.one (lC (.im a0.1.1) 3 a0.1.2)), 0⟩), ((.b (.e 0) 1), ⟨(.one (iC a0.2.1)), 0⟩), ((.b (.e 0) 2), ⟨(.one (iC a0.2.2.1)), 0⟩), ((.b (.e 0) 3), ⟨(.one (iC a0.2.2.2.1)), 0⟩), ((.b (.e 0) 4), ⟨(.one (sC a0.2.2.2.2.1)), 0⟩), ((.b (.e 0) 5), ⟨(.one (lC a0.2.2.2.2.2.1.1 3 a0.2.2.2.2.2.1.2)), 0⟩), ((.b (.e 0) 6), ⟨(.one (lC a0.2.2.2.2.2.2.1.1 6 a0.2.2.2.2.2.2.1.2)), 0⟩), ((.b (.e 0) 7), ⟨(.one (lC a0.2.2.2.2.2.2.2.1.1 10 a0.2.2.2.2.2.2.2.1.2)), 0⟩), ((.r (.e 1)), ⟨(.one (iC 10)), 0⟩), ((.b (.e 1) 0), ⟨(.one (iC a1.1)), 0⟩), ((.b (.e 1) 1), ⟨(.one (sC a1.2.1)), 0⟩), ((.b (.e 1) 2), ⟨(.one (sC a1.2.2.1)), 0⟩), ((.b (.e 1) 3), ⟨(.one (sC a1.2.2.2.1)), 0⟩), ((.b (.e 1) 4), ⟨(.one (sC a1.2.2.2.2.1)), 0⟩), ((.b (.e 1) 5), ⟨(.one (iC a1.2.2.2.2.2.1)), 0⟩), ((.b (.e 1) 6), ⟨(.one (lC a1.2.2.2.2.2.2.1.1 1 a1.2.2.2.2.2.2.1.2)), 0⟩), ((.b (.e 1) 7), ⟨(.one (lC a1.2.2.2.2.2.2.2.1.1 3 a1.2.2.2.2.2.2.2.1.2)), 0⟩), ((.b (.e 1) 8), ⟨(.one (lC a1.2.2.2.2.2.2.2.2.1.1 3 a1.2.2.2.2.2.2.2.2.1.2)), 0⟩), ((.b (.e 1) 9), ⟨(.one (iC a1.2.2.2.2.2.2.2.2.2.1)), 0⟩)]
inductive S58_0 where | s0 (a0 : RowT sh3) (a1 : RowT sh27)
def S58_0.st : S58_0 → Go.Abs.St | .s0 a0 a1 => s58_0_0 a0 a1
inductive S58_1 where | s0 (a0 : RowT sh3) (a1 : RowT sh27)
def S58_1.st : S58_1 → Go.Abs.St | .s0 a0 a1 => s58_1_0 a0 a1
def w58_0_0 (Cl : Oracle) (n : Nat) (x0 : RowT sh3) (x1 : RowT sh27)  (a0 : RowT sh3) (a1 : RowT sh27) : OR :=
  (tRes rs7 (Cl 29 [pE, (.one (sC [101, 108, 115, 101]))] [(bx sh3 a0)]) fun v19 => (tagI (a1.2.2.2.2.2.2.2.2.1.1) (fun b20 => (tRes rs14 (Cl 33 [pE] [(bx sh3 (v19.2.1))]) fun v21 => (gd (b20 && true && true) (some ((.tup []), [(bx sh3 (v21.2.1)), (bx sh27 ((a1.1), (a1.2.1), (a1.2.2.1), (a1.2.2.2.1), (a1.2.2.2.2.1), (a1.2.2.2.2.2.1), ((a1.2.2.2.2.2.2.1.1), (a1.2.2.2.2.2.2.1.2)), ((a1.2.2.2.2.2.2.2.1.1), (a1.2.2.2.2.2.2.2.1.2)), (.own, [[(.str []), (.str []), (.int .i64 (v21.1))]]), (a1.2.2.2.2.2.2.2.2.2.1), ()))]))))) (tRes rs14 (Cl 33 [pE] [(bx sh3 (v19.2.1))]) fun v22 => (gd (a1.2.2.2.2.2.2.2.2.1.2.length == a1.2.2.2.2.2.2.2.2.1.2.length && true && decide ((a1.2.2.2.2.2.2.2.2.1.2.length + 1) * 40 ≤ 140737488355328)) (some ((.tup []), [(bx sh3 (v22.2.1)), (bx sh27 ((a1.1), (a1.2.1), (a1.2.2.1), (a1.2.2.2.1), (a1.2.2.2.2.1), (a1.2.2.2.2.2.1), ((a1.2.2.2.2.2.2.1.1), (a1.2.2.2.2.2.2.1.2)), ((a1.2.2.2.2.2.2.2.1.1), (a1.2.2.2.2.2.2.2.1.2)), (.own, (a1.2.2.2.2.2.2.2.2.1.2 ++ [[D.str [], D.str [], D.int .i64 (0 : Int)]].set 0 [D.str [], D.str [], D.int .i64 v22.1])), (a1.2.2.2.2.2.2.2.2.2.1), ()))]))))))
def w58_1_0 (Cl : Oracle) (n : Nat) (x0 : RowT sh3) (x1 : RowT sh27) (H1 : S58_1 → OR) (a0 : RowT sh3) (a1 : RowT sh27) : OR :=
  (tRes rs3 (Cl 14 [pE] [(bx sh3 a0)]) fun v23 => (bif (!v23.1) then (tRes rs3 (Cl 27 [pE, (.one (sC [125]))] [(bx sh3 (v23.2.1))]) fun v24 => (bif (!v24.1) then (tagI (a1.2.2.2.2.2.2.2.2.1.1) (fun b25 => (tRes rs26 (Cl 72 [pE] [(bx sh3 (v24.2.1))]) fun v26 => (gd (b25 && true && true) (H1 (.s0 (v26.2.1) ((a1.1), (a1.2.1), (a1.2.2.1), (a1.2.2.2.1), (a1.2.2.2.2.1), (a1.2.2.2.2.2.1), ((a1.2.2.2.2.2.2.1.1), (a1.2.2.2.2.2.2.1.2)), ((a1.2.2.2.2.2.2.2.1.1), (a1.2.2.2.2.2.2.2.1.2)), (.own, [[(.str (v26.1.1)), (.str (v26.1.2.1)), (.int .i64 (v26.1.2.2.1))]]), (a1.2.2.2.2.2.2.2.2.2.1), ())))))) (tRes rs26 (Cl 72 [pE] [(bx sh3 (v24.2.1))]) fun v27 => (gd (a1.2.2.2.2.2.2.2.2.1.2.length == a1.2.2.2.2.2.2.2.2.1.2.length && true && decide ((a1.2.2.2.2.2.2.2.2.1.2.length + 1) * 40 ≤ 140737488355328)) (H1 (.s0 (v27.2.1) ((a1.1), (a1.2.1), (a1.2.2.1), (a1.2.2.2.1), (a1.2.2.2.2.1), (a1.2.2.2.2.2.1), ((a1.2.2.2.2.2.2.1.1), (a1.2.2.2.2.2.2.1.2)), ((a1.2.2.2.2.2.2.2.1.1), (a1.2.2.2.2.2.2.2.1.2)), (.own, (a1.2.2.2.2.2.2.2.2.1.2 ++ [[D.str [], D.str [], D.int .i64 (0 : Int)]].set 0 [D.str v27.1.1, D.str v27.1.2.1, D.int .i64 v27.1.2.2.1])), (a1.2.2.2.2.2.2.2.2.2.1), ())))))) else (tRes rs7 (Cl 29 [pE, (.one (sC [125]))] [(bx sh3 (v24.2.1))]) fun v28 => (some ((.tup []), [(bx sh3 (v28.2.1)), (bx sh27 a1)]))))) else (tRes rs7 (Cl 29 [pE, (.one (sC [125]))] [(bx sh3 (v23.2.1))]) fun v29 => (some ((.tup []), [(bx sh3 (v29.2.1)), (bx sh27 a1)])))))
def l58_0 (Cl : Oracle) (n : Nat) (x0 : RowT sh3) (x1 : RowT sh27)  (m : Nat) : S58_0 → OR := Nat.rec (fun _ => none) (fun _ ih s => match s with | .s0 a0 a1 => w58_0_0 Cl n x0 x1  a0 a1) m
theorem hl58_0 (Cl : Oracle) (n : Nat) (x0 : RowT sh3) (x1 : RowT sh27)  : ∀ (m : Nat) (s : S58_0), h58_0 Cl n [(bx sh3 x0), (bx sh27 x1)]  m s.st = l58_0 Cl n x0 x1  m s := by
  intro m
  induction m with
  | zero => intro s; kernel_rfl
  | succ m ih =>
    intro s
    cases s with
    | s0 a0 a1 =>
      have h : h58_0 Cl n [(bx sh3 x0), (bx sh27 x1)]  (m + 1) (s58_0_0 a0 a1) = w58_0_0 Cl n x0 x1  a0 a1 := by kernel_rfl
      exact h
def l58_1 (Cl : Oracle) (n : Nat) (x0 : RowT sh3) (x1 : RowT sh27)  (m : Nat) : S58_1 → OR := Nat.rec (fun _ => none) (fun _ ih s => match s with | .s0 a0 a1 => w58_1_0 Cl n x0 x1 ih a0 a1) m
theorem hl58_1 (Cl : Oracle) (n : Nat) (x0 : RowT sh3) (x1 : RowT sh27)  : ∀ (m : Nat) (s : S58_1), h58_1 Cl n [(bx sh3 x0), (bx sh27 x1)]  m s.st = l58_1 Cl n x0 x1  m s := by
  intro m
  induction m with
  | zero => intro s; kernel_rfl
  | succ m ih =>
    intro s
    have e1 : (fun s => h58_1 Cl n [(bx sh3 x0), (bx sh27 x1)]  m s.st) = l58_1 Cl n x0 x1  m := funext ih
    cases s with
    | s0 a0 a1 =>
      have h : h58_1 Cl n [(bx sh3 x0), (bx sh27 x1)]  (m + 1) (s58_1_0 a0 a1) = w58_1_0 Cl n x0 x1 (fun s => h58_1 Cl n [(bx sh3 x0), (bx sh27 x1)]  m s.st) a0 a1 := by kernel_rfl
      rw [e1] at h
      exact h
def tt58 (Cl : Oracle) (n : Nat) (H0 : S58_0 → OR) (H1 : S58_1 → OR) (x0 : RowT sh3) (x1 : RowT sh27) : OR :=
  (tRes rs3 (Cl 9 [pE, (.one (sC [115, 116, 111, 112]))] [(bx sh3 x0)]) fun v0 => (bif (v0.1) then (some ((.tup []), [(bx sh3 (v0.2.1)), (bx sh27 (0, (x1.2.1), (x1.2.2.1), (x1.2.2.2.1), (x1.2.2.2.2.1), (x1.2.2.2.2.2.1), ((x1.2.2.2.2.2.2.1.1), (x1.2.2.2.2.2.2.1.2)), ((x1.2.2.2.2.2.2.2.1.1), (x1.2.2.2.2.2.2.2.1.2)), ((x1.2.2.2.2.2.2.2.2.1.1), (x1.2.2.2.2.2.2.2.2.1.2)), (x1.2.2.2.2.2.2.2.2.2.1), ()))])) else (tRes rs3 (Cl 9 [pE, (.one (sC [102, 97, 105, 108]))] [(bx sh3 (v0.2.1))]) fun v1 => (bif (v1.1) then (some ((.tup []), [(bx sh3 (v1.2.1)), (bx sh27 (10, (x1.2.1), (x1.2.2.1), (x1.2.2.2.1), (x1.2.2.2.2.1), (x1.2.2.2.2.2.1), ((x1.2.2.2.2.2.2.1.1), (x1.2.2.2.2.2.2.1.2)), ((x1.2.2.2.2.2.2.2.1.1), (x1.2.2.2.2.2.2.2.1.2)), ((x1.2.2.2.2.2.2.2.2.1.1), (x1.2.2.2.2.2.2.2.2.1.2)), (x1.2.2.2.2.2.2.2.2.2.1), ()))])) else (tRes rs3 (Cl 9 [pE, (.one (sC [99, 97, 108, 108]))] [(bx sh3 (v1.2.1))]) fun v2 => (bif (v2.1) then (tRes rs13 (Cl 28 [pE] [(bx sh3 (v2.2.1))]) fun v3 => (tRes rs24 (Cl 70 [pE] [(bx sh3 (v3.2.1))]) fun v4 => (some ((.tup []), [(bx sh3 (v4.2.1)), (bx sh27 (6, (x1.2.1), (x1.2.2.1), (x1.2.2.2.1), (v3.1), (x1.2.2.2.2.2.1), ((.im (v4.1.1)), (v4.1.2)), ((x1.2.2.2.2.2.2.2.1.1), (x1.2.2.2.2.2.2.2.1.2)), ((x1.2.2.2.2.2.2.2.2.1.1), (x1.2.2.2.2.2.2.2.2.1.2)), (x1.2.2.2.2.2.2.2.2.2.1), ()))])))) else (tRes rs3 (Cl 9 [pE, (.one (sC [105, 102]))] [(bx sh3 (v2.2.1))]) fun v5 => (bif (v5.1) then (tRes rs14 (Cl 69 [pE] [(bx sh3 (v5.2.1))]) fun v6 => (tagI (x1.2.2.2.2.2.2.2.2.1.1) (fun b7 => (tRes rs14 (Cl 33 [pE] [(bx sh3 (v6.2.1))]) fun v8 => (gd (b7 && true && true) (H0 (.s0 (v8.2.1) (3, (x1.2.1), (x1.2.2.1), (x1.2.2.2.1), (x1.2.2.2.2.1), (v6.1), ((x1.2.2.2.2.2.2.1.1), (x1.2.2.2.2.2.2.1.2)), ((x1.2.2.2.2.2.2.2.1.1), (x1.2.2.2.2.2.2.2.1.2)), (.own, [[(.str []), (.str []), (.int .i64 (v8.1))]]), (x1.2.2.2.2.2.2.2.2.2.1), ())))))) (tRes rs14 (Cl 33 [pE] [(bx sh3 (v6.2.1))]) fun v9 => (gd (x1.2.2.2.2.2.2.2.2.1.2.length == x1.2.2.2.2.2.2.2.2.1.2.length && true && decide ((x1.2.2.2.2.2.2.2.2.1.2.length + 1) * 40 ≤ 140737488355328)) (H0 (.s0 (v9.2.1) (3, (x1.2.1), (x1.2.2.1), (x1.2.2.2.1), (x1.2.2.2.2.1), (v6.1), ((x1.2.2.2.2.2.2.1.1), (x1.2.2.2.2.2.2.1.2)), ((x1.2.2.2.2.2.2.2.1.1), (x1.2.2.2.2.2.2.2.1.2)), (.own, (x1.2.2.2.2.2.2.2.2.1.2 ++ [[D.str [], D.str [], D.int .i64 (0 : Int)]].set 0 [D.str [], D.str [], D.int .i64 v9.1])), (x1.2.2.2.2.2.2.2.2.2.1), ()))))))) else (tRes rs3 (Cl 9 [pE, (.one (sC [104, 101, 97, 114]))] [(bx sh3 (v5.2.1))]) fun v10 => (bif (v10.1) then (tRes rs13 (Cl 28 [pE] [(bx sh3 (v10.2.1))]) fun v11 => (tRes rs7 (Cl 29 [pE, (.one (sC [102, 114, 111, 109]))] [(bx sh3 (v11.2.1))]) fun v12 => (tRes rs13 (Cl 28 [pE] [(bx sh3 (v12.2.1))]) fun v13 => (tRes rs7 (Cl 29 [pE, (.one (sC [123]))] [(bx sh3 (v13.2.1))]) fun v14 => (tagI (x1.2.2.2.2.2.2.2.2.1.1) (fun b15 => (tRes rs26 (Cl 72 [pE] [(bx sh3 (v14.2.1))]) fun v16 => (gd (b15 && true && true) (H1 (.s0 (v16.2.1) (5, (v11.1), (v13.1), (x1.2.2.2.1), (x1.2.2.2.2.1), (x1.2.2.2.2.2.1), ((x1.2.2.2.2.2.2.1.1), (x1.2.2.2.2.2.2.1.2)), ((x1.2.2.2.2.2.2.2.1.1), (x1.2.2.2.2.2.2.2.1.2)), (.own, [[(.str (v16.1.1)), (.str (v16.1.2.1)), (.int .i64 (v16.1.2.2.1))]]), (x1.2.2.2.2.2.2.2.2.2.1), ())))))) (tRes rs26 (Cl 72 [pE] [(bx sh3 (v14.2.1))]) fun v17 => (gd (x1.2.2.2.2.2.2.2.2.1.2.length == x1.2.2.2.2.2.2.2.2.1.2.length && true && decide ((x1.2.2.2.2.2.2.2.2.1.2.length + 1) * 40 ≤ 140737488355328)) (H1 (.s0 (v17.2.1) (5, (v11.1), (v13.1), (x1.2.2.2.1), (x1.2.2.2.2.1), (x1.2.2.2.2.2.1), ((x1.2.2.2.2.2.2.1.1), (x1.2.2.2.2.2.2.1.2)), ((x1.2.2.2.2.2.2.2.1.1), (x1.2.2.2.2.2.2.2.1.2)), (.own, (x1.2.2.2.2.2.2.2.2.1.2 ++ [[D.str [], D.str [], D.int .i64 (0 : Int)]].set 0 [D.str v17.1.1, D.str v17.1.2.1, D.int .i64 v17.1.2.2.1])), (x1.2.2.2.2.2.2.2.2.2.1), ())))))))))) else (tRes rs7 (Cl 13 [pE] [(bx sh3 (v10.2.1))]) fun v18 => (some ((.tup []), [(bx sh3 (v18.2.1)), (bx sh27 x1)])))))))))))))
def t58 (Cl : Oracle) (n : Nat) (x0 : RowT sh3) (x1 : RowT sh27) : OR := tt58 Cl n (l58_0 Cl n x0 x1 n) (l58_1 Cl n x0 x1 n) x0 x1
theorem pt58 (Cl : Oracle) (n : Nat) (x0 : RowT sh3) (x1 : RowT sh27) : evBodyA an58 Cl n k58 [pE, (.one (.ptr (.e 1) 0 0))] [(bx sh3 x0), (bx sh27 x1)] = t58 Cl n x0 x1 := by
  have h : evBodyA an58 Cl n k58 [pE, (.one (.ptr (.e 1) 0 0))] [(bx sh3 x0), (bx sh27 x1)] = tt58 Cl n (fun s => h58_0 Cl n [(bx sh3 x0), (bx sh27 x1)] n s.st) (fun s => h58_1 Cl n [(bx sh3 x0), (bx sh27 x1)] n s.st) x0 x1 := by kernel_rfl
  have e0 : (fun s => h58_0 Cl n [(bx sh3 x0), (bx sh27 x1)] n s.st) = l58_0 Cl n x0 x1 n := funext (hl58_0 Cl n x0 x1 n)
  have e1 : (fun s => h58_1 Cl n [(bx sh3 x0), (bx sh27 x1)] n s.st) = l58_1 Cl n x0 x1 n := funext (hl58_1 Cl n x0 x1 n)
  rw [e0, e1] at h
  exact h
def t63 (Cl : Oracle) (n : Nat) (x0 : Bool) : OR :=
  (bif x0 then (some ((.one (sC [116, 114, 117, 101])), [])) else (some ((.one (sC [102, 97, 108, 115, 101])), [])))
theorem pt63 (Cl : Oracle) (n : Nat) (x0 : Bool) : evBodyA an63 Cl n k63 [(.one (bC x0))] [] = t63 Cl n x0 := by kernel_rfl
def t59 (Cl : Oracle) (n : Nat) (x0 : Int) : OR :=
  (bif (decide (x0 ≥ (97 : Int))) then (some ((.one (bC (decide (x0 ≤ (122 : Int))))), [])) else rF)
theorem pt59 (Cl : Oracle) (n : Nat) (x0 : Int) : evBodyA an59 Cl n k59 [(.one (.d (.int .u8 x0)))] [] = t59 Cl n x0 := by kernel_rfl
def t60 (Cl : Oracle) (n : Nat) (x0 : Int) : OR :=
  (bif (decide (x0 ≥ (48 : Int))) then (some ((.one (bC (decide (x0 ≤ (57 : Int))))), [])) else rF)
theorem pt60 (Cl : Oracle) (n : Nat) (x0 : Int) : evBodyA an60 Cl n k60 [(.one (.d (.int .u8 x0)))] [] = t60 Cl n x0 := by kernel_rfl
def t69 (Cl : Oracle) (n : Nat) (x0 : RowT sh3) : OR :=
  (tRes rs14 (Cl 82 [pE, (.one (.fn 83 [(.ptr (.e 0) 0 0)] [])), (.one (lC (.im false) 1 [[(.str [111, 114])]])), (.one (lC (.im false) 1 [[(.int .i64 14)]]))] [(bx sh3 x0)]) fun v0 => (some ((.one (iC (v0.1))), [(bx sh3 (v0.2.1))])))
theorem pt69 (Cl : Oracle) (n : Nat) (x0 : RowT sh3) : evBodyA an69 Cl n k69 [pE] [(bx sh3 x0)] = t69 Cl n x0 := by kernel_rfl
def s70_0_0 (a0 : RowT sh3) (a1 : Bool) (a2 : RR) : Go.Abs.St := [((.s 0), ⟨pE, 0⟩), ((.r (.e 0)), ⟨(.one (iC 8)), 0⟩), ((.b (.e 0) 0), ⟨(.one (lC (.im a0.1.1) 3 a0.1.2)), 0⟩), ((.b (.e 0) 1), ⟨(.one (iC a0.2.1)), 0⟩), ((.b (.e 0) 2), ⟨(.one (iC a0.2.2.1)), 0⟩), ((.b (.e 0) 3), ⟨(.one (iC a0.2.2.2.1)), 0⟩), ((.b (.e 0) 4), ⟨(.one (sC a0.2.2.2.2.1)), 0⟩), ((.b (.e 0) 5), ⟨(.one (lC a0.2.2.2.2.2.1.1 3 a0.2.2.2.2.2.1.2)), 0⟩), ((.b (.e 0) 6), ⟨(.one (lC a0.2.2.2.2.2.2.1.1 6 a0.2.2.2.2.2.2.1.2)), 0⟩), ((.b (.e 0) 7), ⟨(.one (lC a0.2.2.2.2.2.2.2.1.1 10 a0.2.2.2.2.2.2.2.1.2)), 0⟩), ((.s 3), ⟨(.one (lC (.im a1) 1 a2)), 0⟩)]
def s70_0_1 (a0 : RowT sh3) (a1 : RR) : Go.Abs.St := [((.s 0), ⟨pE, 0⟩), ((.r (.e 0)), ⟨(.one (iC 8)), 0⟩), ((.b (.e 0) 0), ⟨(.one (lC (.im a0.1.1) 3 a0.1.2)), 0⟩), ((.b (.e 0) 1), ⟨(.one (iC a0.2.1)), 0⟩), ((.b (.e 0) 2), ⟨(.one (iC a0.2.2.1)), 0⟩), ((.b (.e 0) 3), ⟨(.one (iC a0.2.2.2.1)), 0⟩), ((.b (.e 0) 4), ⟨(.one (sC a0.2.2.2.2.1)), 0⟩), ((.b (.e 0) 5), ⟨(.one (lC a0.2.2.2.2.2.1.1 3 a0.2.2.2.2.2.1.2)), 0⟩), ((.b (.e 0) 6), ⟨(.one (lC a0.2.2.2.2.2.2.1.1 6 a0.2.2.2.2.2.2.1.2)), 0⟩), ((.b (.e 0) 7), ⟨(.one (lC a0.2.2.2.2.2.2.2.1.1 10 a0.2.2.2.2.2.2.2.1.2)), 0⟩), ((.s 3), ⟨(.one (lC .own 1 a1)), 0⟩)]
def s70_1_0 (a0 : RowT sh3) (a1 : RR) : Go.Abs.St := [((.s 0), ⟨pE, 0⟩), ((.r (.e 0)), ⟨(.one (iC 8)), 0⟩), ((.b (.e 0) 0), ⟨(.one (lC (.im a0.1.1) 3 a0.1.2)), 0⟩), ((.b (.e 0) 1), ⟨(.one (iC a0.2.1)), 0⟩), ((.b (.e 0) 2), ⟨(.one (iC a0.2.2.1)), 0⟩), ((.b (.e 0) 3), ⟨(.one (iC a0.2.2.2.1)), 0⟩), ((.b (.e 0) 4), ⟨(.one (sC a0.2.2.2.2.1)), 0⟩), ((.b (.e 0) 5), ⟨(.one (lC a0.2.2.2.2.2.1.1 3 a0.2.2.2.2.2.1.2)), 0⟩), ((.b (.e 0) 6), ⟨(.one (lC a0.2.2.2.2.2.2.1.1 6 a0.2.2.2.2.2.2.1.2)), 0⟩), ((.b (.e 0) 7), ⟨(.one (lC a0.2.2.2.2.2.2.2.1.1 10 a0.2.2.2.2.2.2.2.1.2)), 0⟩), ((.s 3), ⟨(.one (lC .own 1 a1)), 0⟩)]
def s70_2_0 (a0 : RowT sh3) (a1 : Bool) (a2 : RR) : Go.Abs.St := [((.s 0), ⟨pE, 0⟩), ((.r (.e 0)), ⟨(.one (iC 8)), 0⟩), ((.b (.e 0) 0), ⟨(.one (lC (.im a0.1.1) 3 a0.1.2)), 0⟩), ((.b (.e 0) 1), ⟨(.one (iC a0.2.1)), 0⟩), ((.b (.e 0) 2), ⟨(.one (iC a0.2.2.1)), 0⟩), ((.b (.e 0) 3), ⟨(.one (iC a0.2.2.2.1)), 0⟩), ((.b (.e 0) 4), ⟨(.one (sC a0.2.2.2.2.1)), 0⟩), ((.b (.e 0) 5), ⟨(.one (lC a0.2.2.2.2.2.1.1 3 a0.2.2.2.2.2.1.2)), 0⟩), ((.b (.e 0) 6), ⟨(.one (lC a0.2.2.2.2.2.2.1.1 6 a0.2.2.2.2.2.2.1.2)), 0⟩), ((.b (.e 0) 7), ⟨(.one (lC a0.2.2.2.2.2.2.2.1.1 10 a0.2.2.2.2.2.2.2.1.2)), 0⟩), ((.s 3), ⟨(.one (lC (.im a1) 1 a2)), 0⟩)]
def s70_2_1 (a0 : RowT sh3) (a1 : RR) : Go.Abs.St := [((.s 0), ⟨pE, 0⟩), ((.r (.e 0)), ⟨(.one (iC 8)), 0⟩), ((.b (.e 0) 0), ⟨(.one (lC (.im a0.1.1) 3 a0.1.2)), 0⟩), ((.b (.e 0) 1), ⟨(.one (iC a0.2.1)), 0⟩), ((.b (.e 0) 2), ⟨(.one (iC a0.2.2.1)), 0⟩), ((.b (.e 0) 3), ⟨(.one (iC a0.2.2.2.1)), 0⟩), ((.b (.e 0) 4), ⟨(.one (sC a0.2.2.2.2.1)), 0⟩), ((.b (.e 0) 5), ⟨(.one (lC a0.2.2.2.2.2.1.1 3 a0.2.2.2.2.2.1.2)), 0⟩), ((.b (.e 0) 6), ⟨(.one (lC a0.2.2.2.2.2.2.1.1 6 a0.2.2.2.2.2.2.1.2)), 0⟩), ((.b (.e 0) 7), ⟨(.one (lC a0.2.2.2.2.2.2.2.1.1 10 a0.2.2.2.2.2.2.2.1.2)), 0⟩), ((.s 3), ⟨(.one (lC .own 1 a1)), 0⟩)]
inductive S70_0 where | s0 (a0 : RowT sh3) (a1 : Bool) (a2 : RR) | s1 (a0 : RowT sh3) (a1 : RR)
def S70_0.st : S70_0 → Go.Abs.St | .s0 a0 a1 a2 => s70_0_0 a0 a1 a2 | .s1 a0 a1 => s70_0_1 a0 a1
inductive S70_1 where | s0 (a0 : RowT sh3) (a1 : RR)
def S70_1.st : S70_1 → Go.Abs.St | .s0 a0 a1 => s70_1_0 a0 a1
inductive S70_2 where | s0 (a0 : RowT sh3) (a1 : Bool) (a2 : RR) | s1 (a0 : RowT sh3) (a1 : RR)
def S70_2.st : S70_2 → Go.Abs.St | .s0 a0 a1 a2 => s70_2_0 a0 a1 a2 | .s1 a0 a1 => s70_2_1 a0 a1
def w70_0_0 (Cl : Oracle) (n : Nat) (x0 : RowT sh3) (H1 : S70_1 → OR) (H2 : S70_2 → OR) (a0 : RowT sh3) (a1 : Bool) (a2 : RR) : OR :=
  (tRes rs3 (Cl 14 [pE] [(bx sh3 a0)]) fun v1 => (bif (!v1.1) then (tRes rs3 (Cl 27 [pE, (.one (sC [41]))] [(bx sh3 (v1.2.1))]) fun v2 => (bif (!v2.1) then (tRes rs14 (Cl 69 [pE] [(bx sh3 (v2.2.1))]) fun v3 => (gd (a1 && true && true) (H1 (.s0 (v3.2.1) [[(.int .i64 (v3.1))]])))) else (H2 (.s0 (v2.2.1) a1 a2)))) else (H2 (.s0 (v1.2.1) a1 a2))))
def w70_0_1 (Cl : Oracle) (n : Nat) (x0 : RowT sh3) (H1 : S70_1 → OR) (H2 : S70_2 → OR) (a0 : RowT sh3) (a1 : RR) : OR :=
  (tRes rs3 (Cl 14 [pE] [(bx sh3 a0)]) fun v9 => (bif (!v9.1) then (tRes rs3 (Cl 27 [pE, (.one (sC [41]))] [(bx sh3 (v9.2.1))]) fun v10 => (bif (!v10.1) then (tRes rs14 (Cl 69 [pE] [(bx sh3 (v10.2.1))]) fun v11 => (gd (a1.length == a1.length && true && decide ((a1.length + 1) * 8 ≤ 140737488355328)) (H1 (.s0 (v11.2.1) (a1 ++ [[D.int .i64 (0 : Int)]].set 0 [D.int .i64 v11.1]))))) else (H2 (.s1 (v10.2.1) a1)))) else (H2 (.s1 (v9.2.1) a1))))
def w70_1_0 (Cl : Oracle) (n : Nat) (x0 : RowT sh3) (H0 : S70_0 → OR) (H2 : S70_2 → OR) (a0 : RowT sh3) (a1 : RR) : OR :=
  (tRes rs3 (Cl 9 [pE, (.one (sC [44]))] [(bx sh3 a0)]) fun v4 => (bif (!v4.1) then (H2 (.s1 (v4.2.1) a1)) else (tRes rs3 (Cl 27 [pE, (.one (sC [41]))] [(bx sh3 (v4.2.1))]) fun v5 => (bif (v5.1) then (tRes rs7 (Cl 13 [pE] [(bx sh3 (v5.2.1))]) fun v6 => (H0 (.s1 (v6.2.1) a1))) else (H0 (.s1 (v5.2.1) a1))))))
def w70_2_0 (Cl : Oracle) (n : Nat) (x0 : RowT sh3)  (a0 : RowT sh3) (a1 : Bool) (a2 : RR) : OR :=
  (tRes rs7 (Cl 29 [pE, (.one (sC [41]))] [(bx sh3 a0)]) fun v7 => (some ((.one (lC (.im a1) 1 a2)), [(bx sh3 (v7.2.1))])))
def w70_2_1 (Cl : Oracle) (n : Nat) (x0 : RowT sh3)  (a0 : RowT sh3) (a1 : RR) : OR :=
  (tRes rs7 (Cl 29 [pE, (.one (sC [41]))] [(bx sh3 a0)]) fun v8 => (gd (decide (0 + a1.length ≤ a1.length)) (some ((.one (lC (.im false) 1 (plainRs (whole a1)))), [(bx sh3 (v8.2.1))]))))
def l70_2 (Cl : Oracle) (n : Nat) (x0 : RowT sh3)  (m : Nat) : S70_2 → OR := Nat.rec (fun _ => none) (fun _ ih s => match s with | .s0 a0 a1 a2 => w70_2_0 Cl n x0  a0 a1 a2 | .s1 a0 a1 => w70_2_1 Cl n x0  a0 a1) m
theorem hl70_2 (Cl : Oracle) (n : Nat) (x0 : RowT sh3)  : ∀ (m : Nat) (s : S70_2), h70_2 Cl n [(bx sh3 x0)]  m s.st = l70_2 Cl n x0  m s := by
  intro m
  induction m with
  | zero => intro s; kernel_rfl
  | succ m ih =>
    intro s
    cases s with
    | s0 a0 a1 a2 =>
      have h : h70_2 Cl n [(bx sh3 x0)]  (m + 1) (s70_2_0 a0 a1 a2) = w70_2_0 Cl n x0  a0 a1 a2 := by kernel_rfl
      exact h
    | s1 a0 a1 =>
      have h : h70_2 Cl n [(bx sh3 x0)]  (m + 1) (s70_2_1 a0 a1) = w70_2_1 Cl n x0  a0 a1 := by kernel_rfl
      exact h
def l70_1 (Cl : Oracle) (n : Nat) (x0 : RowT sh3) (H0 : S70_0 → OR) (m : Nat) : S70_1 → OR := Nat.rec (fun _ => none) (fun _ ih s => match s with | .s0 a0 a1 => w70_1_0 Cl n x0 H0 (l70_2 Cl n x0  n) a0 a1) m
theorem hl70_1 (Cl : Oracle) (n : Nat) (x0 : RowT sh3) (m0 : Nat) : ∀ (m : Nat) (s : S70_1), h70_1 Cl n [(bx sh3 x0)] m0 m s.st = l70_1 Cl n x0 (fun s => h70_0 Cl n [(bx sh3 x0)]  m0 s.st) m s := by
  intro m
  induction m with
  | zero => intro s; kernel_rfl
  | succ m ih =>
    intro s
    have e2 : (fun s => h70_2 Cl n [(bx sh3 x0)]  n s.st) = l70_2 Cl n x0  n := funext (hl70_2 Cl n x0  n)
    cases s with
    | s0 a0 a1 =>
      have h : h70_1 Cl n [(bx sh3 x0)] m0 (m + 1) (s70_1_0 a0 a1) = w70_1_0 Cl n x0 (fun s => h70_0 Cl n [(bx sh3 x0)]  m0 s.st) (fun s => h70_2 Cl n [(bx sh3 x0)]  n s.st) a0 a1 := by kernel_rfl
      rw [e2] at h
      exact h
def l70_0 (Cl : Oracle) (n : Nat) (x0 : RowT sh3)  (m : Nat) : S70_0 → OR := Nat.rec (fun _ => none) (fun _ ih s => match s with | .s0 a0 a1 a2 => w70_0_0 Cl n x0 (l70_1 Cl n x0 ih n) (l70_2 Cl n x0  n) a0 a1 a2 | .s1 a0 a1 => w70_0_1 Cl n x0 (l70_1 Cl n x0 ih n) (l70_2 Cl n x0  n) a0 a1) m
theorem hl70_0 (Cl : Oracle) (n : Nat) (x0 : RowT sh3)  : ∀ (m : Nat) (s : S70_0), h70_0 Cl n [(bx sh3 x0)]  m s.st = l70_0 Cl n x0  m s := by
  intro m
  induction m with
  | zero => intro s; kernel_rfl
  | succ m ih =>
    intro s
    have e0 : (fun s => h70_0 Cl n [(bx sh3 x0)]  m s.st) = l70_0 Cl n x0  m := funext ih
    have e1 : (fun s => h70_1 Cl n [(bx sh3 x0)] m n s.st) = l70_1 Cl n x0 (fun s => h70_0 Cl n [(bx sh3 x0)]  m s.st) n := funext (hl70_1 Cl n x0 m n)
    have e2 : (fun s => h70_2 Cl n [(bx sh3 x0)]  n s.st) = l70_2 Cl n x0  n := funext (hl70_2 Cl n x0  n)
    cases s with
    | s0 a0 a1 a2 =>
      have h : h70_0 Cl n [(bx sh3 x0)]  (m + 1) (s70_0_0 a0 a1 a2) = w70_0_0 Cl n x0 (fun s => h70_1 Cl n [(bx sh3 x0)] m n s.st) (fun s => h70_2 Cl n [(bx sh3 x0)]  n s.st) a0 a1 a2 := by kernel_rfl
      rw [e1, e2, e0] at h
      exact h
    | s1 a0 a1 =>
      have h : h70_0 Cl n [(bx sh3 x0)]  (m + 1) (s70_0_1 a0 a1) = w70_0_1 Cl n x0 (fun s => h70_1 Cl n [(bx sh3 x0)] m n s.st) (fun s => h70_2 Cl n [(bx sh3 x0)]  n s.st) a0 a1 := by kernel_rfl
      rw [e1, e2, e0] at h
      exact h
def tt70 (Cl : Oracle) (n : Nat) (H0 : S70_0 → OR) (x0 : RowT sh3) : OR :=
  (tRes rs7 (Cl 29 [pE, (.one (sC [40]))] [(bx sh3 x0)]) fun v0 => (H0 (.s0 (v0.2.1) true [])))
def t70 (Cl : Oracle) (n : Nat) (x0 : RowT sh3) : OR := tt70 Cl n (l70_0 Cl n x0 n) x0
theorem pt70 (Cl : Oracle) (n : Nat) (x0 : RowT sh3) : evBodyA an70 Cl n k70 [pE] [(bx sh3 x0)] = t70 Cl n x0 := by
  have h : evBodyA an70 Cl n k70 [pE] [(bx sh3 x0)] = tt70 Cl n (fun s => h70_0 Cl n [(bx sh3 x0)] n s.st) x0 := by kernel_rfl
  have e0 : (fun s => h70_0 Cl n [(bx sh3 x0)] n s.st) = l70_0 Cl n x0 n := funext (hl70_0 Cl n x0 n)
  rw [e0] at h
  exact h
def s71_0_0 (a0 : RowT sh3) (a1 : Bool) (a2 : RR) : Go.Abs.St := [((.s 0), ⟨pE, 0⟩), ((.r (.e 0)), ⟨(.one (iC 8)), 0⟩), ((.b (.e 0) 0), ⟨(.one (lC (.im a0.1.1) 3 a0.1.2)), 0⟩), ((.b (.e 0) 1), ⟨(.one (iC a0.2.1)), 0⟩), ((.b (.e 0) 2), ⟨(.one (iC a0.2.2.1)), 0⟩), ((.b (.e 0) 3), ⟨(.one (iC a0.2.2.2.1)), 0⟩), ((.b (.e 0) 4), ⟨(.one (sC a0.2.2.2.2.1)), 0⟩), ((.b (.e 0) 5), ⟨(.one (lC a0.2.2.2.2.2.1.1 3 a0.2.2.2.2.2.1.2)), 0⟩), ((.b (.e 0) 6), ⟨(.one (lC a0.2.2.2.2.2.2.1.1 6 a0.2.2.2.2.2.2.1.2)), 0⟩), ((.b (.e 0) 7), ⟨(.one (lC a0.2.2.2.2.2.2.2.1.1 10 a0.2.2.2.2.2.2.2.1.2)), 0⟩), ((.s 3), ⟨(.one (lC (.im a1) 3 a2)), 0⟩)]
def s71_0_1 (a0 : RowT sh3) (a1 : RR) : Go.Abs.St := [((.s 0), ⟨pE, 0⟩), ((.r (.e 0)), ⟨(.one (iC 8)), 0⟩), ((.b (.e 0) 0), ⟨(.one (lC (.im a0.1.1) 3 a0.1.2)), 0⟩), ((.b (.e 0) 1), ⟨(.one (iC a0.2.1)), 0⟩), ((.b (.e 0) 2), ⟨(.one (iC a0.2.2.1)), 0⟩), ((.b (.e 0) 3), ⟨(.one (iC a0.2.2.2.1)), 0⟩), ((.b (.e 0) 4), ⟨(.one (sC a0.2.2.2.2.1)), 0⟩), ((.b (.e 0) 5), ⟨(.one (lC a0.2.2.2.2.2.1.1 3 a0.2.2.2.2.2.1.2)), 0⟩), ((.b (.e 0) 6), ⟨(.one (lC a0.2.2.2.2.2.2.1.1 6 a0.2.2.2.2.2.2.1.2)), 0⟩), ((.b (.e 0) 7), ⟨(.one (lC a0.2.2.2.2.2.2.2.1.1 10 a0.2.2.2.2.2.2.2.1.2)), 0⟩), ((.s 3), ⟨(.one (lC .own 3 a1)), 0⟩)]
def s71_1_0 (a0 : RowT sh3) (a1 : RR) (a2 : RowT sh30) : Go.Abs.St := [((.s 0), ⟨pE, 0⟩), ((.r (.e 0)), ⟨(.one (iC 8)), 0⟩), ((.b (.e 0) 0), ⟨(.one (lC (.im a0.1.1) 3 a0.1.2)), 0⟩), ((.b (.e 0) 1), ⟨(.one (iC a0.2.1)), 0⟩), ((.b (.e 0) 2), ⟨(.one (iC a0.2.2.1)), 0⟩), ((.b (.e 0) 3), ⟨(.one (iC a0.2.2.2.1)), 0⟩), ((.b (.e 0) 4), ⟨(.one (sC a0.2.2.2.2.1)), 0⟩), ((.b (.e 0) 5), ⟨(.one (lC a0.2.2.2.2.2.1.1 3 a0.2.2.2.2.2.1.2)), 0⟩), ((.b (.e 0) 6), ⟨(.one (lC a0.2.2.2.2.2.2.1.1 6 a0.2.2.2.2.2.2.1.2)), 0⟩), ((.b (.e 0) 7), ⟨(.one (lC a0.2.2.2.2.2.2.2.1.1 10 a0.2.2.2.2.2.2.2.1.2)), 0⟩), ((.s 3), ⟨(.one (lC .own 3 a1)), 0⟩), ((.r (.l 4)), ⟨(.one (iC 3)), 1⟩), ((.b (.l 4) 0), ⟨(.one (sC a2.1)), 0⟩), ((.b (.l 4) 1), ⟨(.one (sC a2.2.1)), 0⟩), ((.b (.l 4) 2), ⟨(.one (lC a2.2.2.1.1 1 a2.2.2.1.2)), 0⟩)]
inductive S71_0 where | s0 (a0 : RowT sh3) (a1 : Bool) (a2 : RR) | s1 (a0 : RowT sh3) (a1 : RR)
def S71_0.st : S71_0 → Go.Abs.St | .s0 a0 a1 a2 => s71_0_0 a0 a1 a2 | .s1 a0 a1 => s71_0_1 a0 a1
inductive S71_1 where | s0 (a0 : RowT sh3) (a1 : RR) (a2 : RowT sh30)
def S71_1.st : S71_1 → Go.Abs.St | .s0 a0 a1 a2 => s71_1_0 a0 a1 a2
def w71_0_0 (Cl : Oracle) (n : Nat) (x0 : RowT sh3) (H1 : S71_1 → OR) (a0 : RowT sh3) (a1 : Bool) (a2 : RR) : OR :=
  (tRes rs3 (Cl 14 [pE] [(bx sh3 a0)]) fun v0 => (bif (!v0.1) then (tRes rs13 (Cl 28 [pE] [(bx sh3 (v0.2.1))]) fun v1 => (tRes rs7 (Cl 29 [pE, (.one (sC [58]))] [(bx sh3 (v1.2.1))]) fun v2 => (tRes rs13 (Cl 28 [pE] [(bx sh3 (v2.2.1))]) fun v3 => (tRes rs24 (Cl 70 [pE] [(bx sh3 (v3.2.1))]) fun v4 => (gd (a1 && true && true) (H1 (.s0 (v4.2.1) [[(.str (v1.1)), (.str (v3.1)), (.sl (.im (v4.1.1)) 1 (v4.1.2))]] ((v1.1), (v3.1), ((.im (v4.1.1)), (v4.1.2)), ())))))))) else (some ((.one (lC (.im a1) 3 a2)), [(bx sh3 (v0.2.1))]))))
def w71_0_1 (Cl : Oracle) (n : Nat) (x0 : RowT sh3) (H1 : S71_1 → OR) (a0 : RowT sh3) (a1 : RR) : OR :=
  (tRes rs3 (Cl 14 [pE] [(bx sh3 a0)]) fun v6 => (bif (!v6.1) then (tRes rs13 (Cl 28 [pE] [(bx sh3 (v6.2.1))]) fun v7 => (tRes rs7 (Cl 29 [pE, (.one (sC [58]))] [(bx sh3 (v7.2.1))]) fun v8 => (tRes rs13 (Cl 28 [pE] [(bx sh3 (v8.2.1))]) fun v9 => (tRes rs24 (Cl 70 [pE] [(bx sh3 (v9.2.1))]) fun v10 => (gd (a1.length == a1.length && true && decide ((a1.length + 1) * 56 ≤ 140737488355328)) (H1 (.s0 (v10.2.1) (a1 ++ [[D.str [], D.str [], D.sl (.im true) 1 []]].set 0 [D.str v7.1, D.str v9.1, D.sl (.im v10.1.1) 1 v10.1.2]) ((v7.1), (v9.1), ((.im (v10.1.1)), (v10.1.2)), ())))))))) else (gd (decide (0 + a1.length ≤ a1.length)) (some ((.one (lC (.im false) 3 (plainRs (whole a1)))), [(bx sh3 (v6.2.1))])))))
def w71_1_0 (Cl : Oracle) (n : Nat) (x0 : RowT sh3) (H0 : S71_0 → OR) (a0 : RowT sh3) (a1 : RR) (a2 : RowT sh30) : OR :=
  (tRes rs3 (Cl 9 [pE, (.one (sC [44]))] [(bx sh3 a0)]) fun v5 => (bif (!v5.1) then (gd (decide (0 + a1.length ≤ a1.length)) (some ((.one (lC (.im false) 3 (plainRs (whole a1)))), [(bx sh3 (v5.2.1))]))) else (H0 (.s1 (v5.2.1) a1))))
def l71_1 (Cl : Oracle) (n : Nat) (x0 : RowT sh3) (H0 : S71_0 → OR) (m : Nat) : S71_1 → OR := Nat.rec (fun _ => none) (fun _ ih s => match s with | .s0 a0 a1 a2 => w71_1_0 Cl n x0 H0 a0 a1 a2) m
theorem hl71_1 (Cl : Oracle) (n : Nat) (x0 : RowT sh3) (m0 : Nat) : ∀ (m : Nat) (s : S71_1), h71_1 Cl n [(bx sh3 x0)] m0 m s.st = l71_1 Cl n x0 (fun s => h71_0 Cl n [(bx sh3 x0)]  m0 s.st) m s := by
  intro m
  induction m with
  | zero => intro s; kernel_rfl
  | succ m ih =>
    intro s
    cases s with
    | s0 a0 a1 a2 =>
      have h : h71_1 Cl n [(bx sh3 x0)] m0 (m + 1) (s71_1_0 a0 a1 a2) = w71_1_0 Cl n x0 (fun s => h71_0 Cl n [(bx sh3 x0)]  m0 s.st) a0 a1 a2 := by kernel_rfl
      exact h
def l71_0 (Cl : Oracle) (n : Nat) (x0 : RowT sh3)  (m : Nat) : S71_0 → OR := Nat.rec (fun _ => none) (fun _ ih s => match s with | .s0 a0 a1 a2 => w71_0_0 Cl n x0 (l71_1 Cl n x0 ih n) a0 a1 a2 | .s1 a0 a1 => w71_0_1 Cl n x0 (l71_1 Cl n x0 ih n) a0 a1) m
theorem hl71_0 (Cl : Oracle) (n : Nat) (x0 : RowT sh3)  : ∀ (m : Nat) (s : S71_0), h71_0 Cl n [(bx sh3 x0)]  m s.st = l71_0 Cl n x0  m s := by
  intro m
  induction m with
  | zero => intro s; kernel_rfl
  | succ m ih =>
    intro s
    have e0 : (fun s => h71_0 Cl n [(bx sh3 x0)]  m s.st) = l71_0 Cl n x0  m := funext ih
    have e1 : (fun s => h71_1 Cl n [(bx sh3 x0)] m n s.st) = l71_1 Cl n x0 (fun s => h71_0 Cl n [(bx sh3 x0)]  m s.st) n := funext (hl71_1 Cl n x0 m n)
    cases s with
    | s0 a0 a1 a2 =>
      have h : h71_0 Cl n [(bx sh3 x0)]  (m + 1) (s71_0_0 a0 a1 a2) = w71_0_0 Cl n x0 (fun s => h71_1 Cl n [(bx sh3 x0)] m n s.st) a0 a1 a2 := by kernel_rfl
      rw [e1, e0] at h
      exact h
    | s1 a0 a1 =>
      have h : h71_0 Cl n [(bx sh3 x0)]  (m + 1) (s71_0_1 a0 a1) = w71_0_1 Cl n x0 (fun s => h71_1 Cl n [(bx sh3 x0)] m n s.st) a0 a1 := by kernel_rfl
      rw [e1, e0] at h
      exact h
def tt71 (Cl : Oracle) (n : Nat) (H0 : S71_0 → OR) (x0 : RowT sh3) : OR :=
  (H0 (.s0 x0 true []))
def t71 (Cl : Oracle) (n : Nat) (x0 : RowT sh3) : OR := tt71 Cl n (l71_0 Cl n x0 n) x0
theorem pt71 (Cl : Oracle) (n : Nat) (x0 : RowT sh3) : evBodyA an71 Cl n k71 [pE] [(bx sh3 x0)] = t71 Cl n x0 := by
  have h : evBodyA an71 Cl n k71 [pE] [(bx sh3 x0)] = tt71 Cl n (fun s => h71_0 Cl n [(bx sh3 x0)] n s.st) x0 := by kernel_rfl
  have e0 : (fun s => h71_0 Cl n [(bx sh3 x0)] n s.st) = l71_0 Cl n x0 n := funext (hl71_0 Cl n x0 n)
  rw [e0] at h
  exact h
def s72_0_0 (a0 : RowT sh3) (a1 : RowT sh29) (a2 : RowT sh29) : Go.Abs.St := [((.s 0), ⟨pE, 0⟩), ((.r (.e 0)), ⟨(.one (iC 8)), 0⟩), ((.b (.e 0) 0), ⟨(.one (lC (.im a0.1.1) 3 a0.1.2)), 0⟩), ((.b (.e 0) 1), ⟨(.one (iC a0.2.1)), 0⟩), ((.b (.e 0) 2), ⟨(.one (iC a0.2.2.1)), 0⟩), ((.b (.e 0) 3), ⟨(.one (iC a0.2.2.2.1)), 0⟩), ((.b (.e 0) 4), ⟨(.one (sC a0.2.2.2.2.1)), 0⟩), ((.b (.e 0) 5), ⟨(.one (lC a0.2.2.2.2.2.1.1 3 a0.2.2.2.2.2.1.2)), 0⟩), ((.b (.e 0) 6), ⟨(.one (lC a0.2.2.2.2.2.2.1.1 6 a0.2.2.2.2.2.2.1.2)), 0⟩), ((.b (.e 0) 7), ⟨(.one (lC a0.2.2.2.2.2.2.2.1.1 10 a0.2.2.2.2.2.2.2.1.2)), 0⟩), ((.r (.l 2)), ⟨(.one (iC 3)), 1⟩), ((.b (.l 2) 0), ⟨(.one (sC a1.1)), 0⟩), ((.b (.l 2) 1), ⟨(.one (sC a1.2.1)), 0⟩), ((.b (.l 2) 2), ⟨(.one (iC a1.2.2.1)), 0⟩), ((.s 2), ⟨(.one (.ptr (.l 2) 1 0)), 0⟩), ((.r (.l 3)), ⟨(.one (iC 3)), 1⟩), ((.b (.l 3) 0), ⟨(.one (sC a2.1)), 0⟩), ((.b (.l 3) 1), ⟨(.one (sC a2.2.1)), 0⟩), ((.b (.l 3) 2), ⟨(.one (iC a2.2.2.1)), 0⟩), ((.s 3), ⟨(.one (.ptr (.l 3) 1 0)), 0⟩)]
def s72_1_0 (a0 : RowT sh3) (a1 : RowT sh29) (a2 : RowT sh29) : Go.Abs.St := [((.s 0), ⟨pE, 0⟩), ((.r (.e 0)), ⟨(.one (iC 8)), 0⟩), ((.b (.e 0) 0), ⟨(.one (lC (.im a0.1.1) 3 a0.1.2)), 0⟩), ((.b (.e 0) 1), ⟨(.one (iC a0.2.1)), 0⟩), ((.b (.e 0) 2), ⟨(.one (iC a0.2.2.1)), 0⟩), ((.b (.e 0) 3), ⟨(.one (iC a0.2.2.2.1)), 0⟩), ((.b (.e 0) 4), ⟨(.one (sC a0.2.2.2.2.1)), 0⟩), ((.b (.e 0) 5), ⟨(.one (lC a0.2.2.2.2.2.1.1 3 a0.2.2.2.2.2.1.2)), 0⟩), ((.b (.e 0) 6), ⟨(.one (lC a0.2.2.2.2.2.2.1.1 6 a0.2.2.2.2.2.2.1.2)), 0⟩), ((.b (.e 0) 7), ⟨(.one (lC a0.2.2.2.2.2.2.2.1.1 10 a0.2.2.2.2.2.2.2.1.2)), 0⟩), ((.r (.l 2)), ⟨(.one (iC 3)), 1⟩), ((.b (.l 2) 0), ⟨(.one (sC a1.1)), 0⟩), ((.b (.l 2) 1), ⟨(.one (sC a1.2.1)), 0⟩), ((.b (.l 2) 2), ⟨(.one (iC a1.2.2.1)), 0⟩), ((.s 2), ⟨(.one (.ptr (.l 2) 1 0)), 0⟩), ((.r (.l 3)), ⟨(.one (iC 3)), 1⟩), ((.b (.l 3) 0), ⟨(.one (sC a2.1)), 0⟩), ((.b (.l 3) 1), ⟨(.one (sC a2.2.1)), 0⟩), ((.b (.l 3) 2), ⟨(.one (iC a2.2.2.1)), 0⟩), ((.s 3), ⟨(.one (.ptr (.l 3) 1 0)), 0⟩)]
inductive S72_0 where | s0 (a0 : RowT sh3) (a1 : RowT sh29) (a2 : RowT sh29)
def S72_0.st : S72_0 → Go.Abs.St | .s0 a0 a1 a2 => s72_0_0 a0 a1 a2
inductive S72_1 where | s0 (a0 : RowT sh3) (a1 : RowT sh29) (a2 : RowT sh29)
def S72_1.st : S72_1 → Go.Abs.St | .s0 a0 a1 a2 => s72_1_0 a0 a1 a2
def w72_0_0 (Cl : Oracle) (n : Nat) (x0 : RowT sh3) (H1 : S72_1 → OR) (a0 : RowT sh3) (a1 : RowT sh29) (a2 : RowT sh29) : OR :=
  (tRes rs7 (Cl 29 [pE, (.one (sC [41]))] [(bx sh3 a0)]) fun v5 => (H1 (.s0 (v5.2.1) a1 a2)))
def w72_1_0 (Cl : Oracle) (n : Nat) (x0 : RowT sh3)  (a0 : RowT sh3) (a1 : RowT sh29) (a2 : RowT sh29) : OR :=
  (tRes rs14 (Cl 33 [pE] [(bx sh3 a0)]) fun v6 => (some ((.agg [(sC (a2.1)), (sC (a2.2.1)), (iC (v6.1))]), [(bx sh3 (v6.2.1))])))
def l72_1 (Cl : Oracle) (n : Nat) (x0 : RowT sh3)  (m : Nat) : S72_1 → OR := Nat.rec (fun _ => none) (fun _ ih s => match s with | .s0 a0 a1 a2 => w72_1_0 Cl n x0  a0 a1 a2) m
theorem hl72_1 (Cl : Oracle) (n : Nat) (x0 : RowT sh3)  : ∀ (m : Nat) (s : S72_1), h72_1 Cl n [(bx sh3 x0)]  m s.st = l72_1 Cl n x0  m s := by
  intro m
  induction m with
  | zero => intro s; kernel_rfl
  | succ m ih =>
    intro s
    cases s with
    | s0 a0 a1 a2 =>
      have h : h72_1 Cl n [(bx sh3 x0)]  (m + 1) (s72_1_0 a0 a1 a2) = w72_1_0 Cl n x0  a0 a1 a2 := by kernel_rfl
      exact h
def l72_0 (Cl : Oracle) (n : Nat) (x0 : RowT sh3)  (m : Nat) : S72_0 → OR := Nat.rec (fun _ => none) (fun _ ih s => match s with | .s0 a0 a1 a2 => w72_0_0 Cl n x0 (l72_1 Cl n x0  n) a0 a1 a2) m
theorem hl72_0 (Cl : Oracle) (n : Nat) (x0 : RowT sh3)  : ∀ (m : Nat) (s : S72_0), h72_0 Cl n [(bx sh3 x0)]  m s.st = l72_0 Cl n x0  m s := by
  intro m
  induction m with
  | zero => intro s; kernel_rfl
  | succ m ih =>
    intro s
    have e1 : (fun s => h72_1 Cl n [(bx sh3 x0)]  n s.st) = l72_1 Cl n x0  n := funext (hl72_1 Cl n x0  n)
    cases s with
    | s0 a0 a1 a2 =>
      have h : h72_0 Cl n [(bx sh3 x0)]  (m + 1) (s72_0_0 a0 a1 a2) = w72_0_0 Cl n x0 (fun s => h72_1 Cl n [(bx sh3 x0)]  n s.st) a0 a1 a2 := by kernel_rfl
      rw [e1] at h
      exact h
def tt72 (Cl : Oracle) (n : Nat) (H0 : S72_0 → OR) (H1 : S72_1 → OR) (x0 : RowT sh3) : OR :=
  (tRes rs3 (Cl 9 [pE, (.one (sC [108, 111, 115, 116]))] [(bx sh3 x0)]) fun v0 => (bif (!v0.1) then (tRes rs13 (Cl 28 [pE] [(bx sh3 (v0.2.1))]) fun v1 => (tRes rs7 (Cl 29 [pE, (.one (sC [40]))] [(bx sh3 (v1.2.1))]) fun v2 => (tRes rs3 (Cl 27 [pE, (.one (sC [41]))] [(bx sh3 (v2.2.1))]) fun v3 => (bif (!v3.1) then (tRes rs13 (Cl 28 [pE] [(bx sh3 (v3.2.1))]) fun v4 => (H0 (.s0 (v4.2.1) ([], [], 0, ()) ((v1.1), (v4.1), 0, ())))) else (H0 (.s0 (v3.2.1) ([], [], 0, ()) ((v1.1), [], 0, ()))))))) else (H1 (.s0 (v0.2.1) ([], [], 0, ()) ([], [], 0, ())))))
def t72 (Cl : Oracle) (n : Nat) (x0 : RowT sh3) : OR := tt72 Cl n (l72_0 Cl n x0 n) (l72_1 Cl n x0 n) x0
theorem pt72 (Cl : Oracle) (n : Nat) (x0 : RowT sh3) : evBodyA an72 Cl n k72 [pE] [(bx sh3 x0)] = t72 Cl n x0 := by
  have h : evBodyA an72 Cl n k72 [pE] [(bx sh3 x0)] = tt72 Cl n (fun s => h72_0 Cl n [(bx sh3 x0)] n s.st) (fun s => h72_1 Cl n [(bx sh3 x0)] n s.st) x0 := by kernel_rfl
  have e0 : (fun s => h72_0 Cl n [(bx sh3 x0)] n s.st) = l72_0 Cl n x0 n := funext (hl72_0 Cl n x0 n)
  have e1 : (fun s => h72_1 Cl n [(bx sh3 x0)] n s.st) = l72_1 Cl n x0 n := funext (hl72_1 Cl n x0 n)
  rw [e0, e1] at h
  exact h
def s82_0_0 (a0 : Bool) (a1 : RR) (a2 : Bool) (a3 : RR) (a4 : RowT sh3) (a5 : Int) : Go.Abs.St := [((.s 0), ⟨pE, 0⟩), ((.s 1), ⟨(.one (.fn 83 [(.ptr (.e 0) 0 0)] [])), 0⟩), ((.s 2), ⟨(.one (lC (.im a0) 1 a1)), 0⟩), ((.s 3), ⟨(.one (lC (.im a2) 1 a3)), 0⟩), ((.r (.e 0)), ⟨(.one (iC 8)), 0⟩), ((.b (.e 0) 0), ⟨(.one (lC (.im a4.1.1) 3 a4.1.2)), 0⟩), ((.b (.e 0) 1), ⟨(.one (iC a4.2.1)), 0⟩), ((.b (.e 0) 2), ⟨(.one (iC a4.2.2.1)), 0⟩), ((.b (.e 0) 3), ⟨(.one (iC a4.2.2.2.1)), 0⟩), ((.b (.e 0) 4), ⟨(.one (sC a4.2.2.2.2.1)), 0⟩), ((.b (.e 0) 5), ⟨(.one (lC a4.2.2.2.2.2.1.1 3 a4.2.2.2.2.2.1.2)), 0⟩), ((.b (.e 0) 6), ⟨(.one (lC a4.2.2.2.2.2.2.1.1 6 a4.2.2.2.2.2.2.1.2)), 0⟩), ((.b (.e 0) 7), ⟨(.one (lC a4.2.2.2.2.2.2.2.1.1 10 a4.2.2.2.2.2.2.2.1.2)), 0⟩), ((.s 9), ⟨(.one (iC a5)), 0⟩)]
def s82_1_0 (a0 : Bool) (a1 : RR) (a2 : Bool) (a3 : RR) (a4 : RowT sh3) (a5 : Int) (a6 : Int) (a7 : Bool) (a8 : RR) (a9 : Int) (a10 : Int) : Go.Abs.St := [((.s 0), ⟨pE, 0⟩), ((.s 1), ⟨(.one (.fn 83 [(.ptr (.e 0) 0 0)] [])), 0⟩), ((.s 2), ⟨(.one (lC (.im a0) 1 a1)), 0⟩), ((.s 3), ⟨(.one (lC (.im a2) 1 a3)), 0⟩), ((.r (.e 0)), ⟨(.one (iC 8)), 0⟩), ((.b (.e 0) 0), ⟨(.one (lC (.im a4.1.1) 3 a4.1.2)), 0⟩), ((.b (.e 0) 1), ⟨(.one (iC a4.2.1)), 0⟩), ((.b (.e 0) 2), ⟨(.one (iC a4.2.2.1)), 0⟩), ((.b (.e 0) 3), ⟨(.one (iC a4.2.2.2.1)), 0⟩), ((.b (.e 0) 4), ⟨(.one (sC a4.2.2.2.2.1)), 0⟩), ((.b (.e 0) 5), ⟨(.one (lC a4.2.2.2.2.2.1.1 3 a4.2.2.2.2.2.1.2)), 0⟩), ((.b (.e 0) 6), ⟨(.one (lC a4.2.2.2.2.2.2.1.1 6 a4.2.2.2.2.2.2.1.2)), 0⟩), ((.b (.e 0) 7), ⟨(.one (lC a4.2.2.2.2.2.2.2.1.1 10 a4.2.2.2.2.2.2.2.1.2)), 0⟩), ((.s 9), ⟨(.one (iC a5)), 0⟩), ((.s 10), ⟨(.one (iC a6)), 0⟩), ((.s 21), ⟨(.one (lC (.im a7) 1 a8)), 0⟩), ((.s 22), ⟨(.one (iC a9)), 0⟩), ((.s 23), ⟨(.one (iC a10)), 0⟩)]
def s82_2_0 (a0 : Bool) (a1 : RR) (a2 : Bool) (a3 : RR) (a4 : RowT sh3) (a5 : Int) (a6 : Int) : Go.Abs.St := [((.s 0), ⟨pE, 0⟩), ((.s 1), ⟨(.one (.fn 83 [(.ptr (.e 0) 0 0)] [])), 0⟩), ((.s 2), ⟨(.one (lC (.im a0) 1 a1)), 0⟩), ((.s 3), ⟨(.one (lC (.im a2) 1 a3)), 0⟩), ((.r (.e 0)), ⟨(.one (iC 8)), 0⟩), ((.b (.e 0) 0), ⟨(.one (lC (.im a4.1.1) 3 a4.1.2)), 0⟩), ((.b (.e 0) 1), ⟨(.one (iC a4.2.1)), 0⟩), ((.b (.e 0) 2), ⟨(.one (iC a4.2.2.1)), 0⟩), ((.b (.e 0) 3), ⟨(.one (iC a4.2.2.2.1)), 0⟩), ((.b (.e 0) 4), ⟨(.one (sC a4.2.2.2.2.1)), 0⟩), ((.b (.e 0) 5), ⟨(.one (lC a4.2.2.2.2.2.1.1 3 a4.2.2.2.2.2.1.2)), 0⟩), ((.b (.e 0) 6), ⟨(.one (lC a4.2.2.2.2.2.2.1.1 6 a4.2.2.2.2.2.2.1.2)), 0⟩), ((.b (.e 0) 7), ⟨(.one (lC a4.2.2.2.2.2.2.2.1.1 10 a4.2.2.2.2.2.2.2.1.2)), 0⟩), ((.s 9), ⟨(.one (iC a5)), 0⟩), ((.s 10), ⟨(.one (iC a6)), 0⟩)]
inductive S82_0 where | s0 (a0 : Bool) (a1 : RR) (a2 : Bool) (a3 : RR) (a4 : RowT sh3) (a5 : Int)
def S82_0.st : S82_0 → Go.Abs.St | .s0 a0 a1 a2 a3 a4 a5 => s82_0_0 a0 a1 a2 a3 a4 a5
inductive S82_1 where | s0 (a0 : Bool) (a1 : RR) (a2 : Bool) (a3 : RR) (a4 : RowT sh3) (a5 : Int) (a6 : Int) (a7 : Bool) (a8 : RR) (a9 : Int) (a10 : Int)
def S82_1.st : S82_1 → Go.Abs.St | .s0 a0 a1 a2 a3 a4 a5 a6 a7 a8 a9 a10 => s82_1_0 a0 a1 a2 a3 a4 a5 a6 a7 a8 a9 a10
inductive S82_2 where | s0 (a0 : Bool) (a1 : RR) (a2 : Bool) (a3 : RR) (a4 : RowT sh3) (a5 : Int) (a6 : Int)
def S82_2.st : S82_2 → Go.Abs.St | .s0 a0 a1 a2 a3 a4 a5 a6 => s82_2_0 a0 a1 a2 a3 a4 a5 a6
def w82_0_0 (Cl : Oracle) (n : Nat) (x4 : RowT sh3) (H1 : S82_1 → OR) (a0 : Bool) (a1 : RR) (a2 : Bool) (a3 : RR) (a4 : RowT sh3) (a5 : Int) : OR :=
  (tRes rs3 (Cl 14 [pE] [(bx sh3 a4)]) fun v1 => (bif (!v1.1) then (H1 (.s0 a0 a1 a2 a3 (v1.2.1) a5 (-1) a0 a1 (natI a1.length) 0)) else (some ((.one (iC a5)), [(bx sh3 (v1.2.1))]))))
def w82_1_0 (Cl : Oracle) (n : Nat) (x4 : RowT sh3) (H1 : S82_1 → OR) (H2 : S82_2 → OR) (a0 : Bool) (a1 : RR) (a2 : Bool) (a3 : RR) (a4 : RowT sh3) (a5 : Int) (a6 : Int) (a7 : Bool) (a8 : RR) (a9 : Int) (a10 : Int) : OR :=
  (bif (decide (a10 < a9)) then (qOpt (asI a10) fun o2 => (qOpt (a8[o2]?) fun o3 => (gd (decide (1 ≤ o3.length)) (tRow [.str] (List.take 1 o3) fun v4 => (tRes rs3 (Cl 9 [pE, (.one (sC (v4.1)))] [(bx sh3 a4)]) fun v5 => (bif (v5.1) then (qOpt (asI a10) fun o6 => (qOpt (a3[o6]?) fun o7 => (gd (decide (1 ≤ o7.length)) (tRow sh1 (List.take 1 o7) fun v8 => (H2 (.s0 a0 a1 a2 a3 (v5.2.1) a5 (v8.1))))))) else (H1 (.s0 a0 a1 a2 a3 (v5.2.1) a5 a6 a7 a8 a9 (w64 (a10 + (1 : Int))))))))))) else (H2 (.s0 a0 a1 a2 a3 a4 a5 a6)))
def w82_2_0 (Cl : Oracle) (n : Nat) (x4 : RowT sh3) (H0 : S82_0 → OR) (a0 : Bool) (a1 : RR) (a2 : Bool) (a3 : RR) (a4 : RowT sh3) (a5 : Int) (a6 : Int) : OR :=
  (bif (decide (a6 < (0 : Int))) then (some ((.one (iC a5)), [(bx sh3 a4)])) else (tRes rs27 (Cl 90 [(.one (iC a6))] []) fun v9 => (tRes rs14 (Cl 83 [pE] [(bx sh3 a4)]) fun v10 => (tRes rs14 (Cl 91 [pE, (.agg [(iC (v9.1.1)), (sC (v9.1.2.1)), (iC (v9.1.2.2.1)), (sC (v9.1.2.2.2.1)), (iC a5), (iC (v10.1))])] [(bx sh3 (v10.2.1))]) fun v11 => (H0 (.s0 a0 a1 a2 a3 (v11.2.1) (v11.1)))))))
def l82_2 (Cl : Oracle) (n : Nat) (x4 : RowT sh3) (H0 : S82_0 → OR) (m : Nat) : S82_2 → OR := Nat.rec (fun _ => none) (fun _ ih s => match s with | .s0 a0 a1 a2 a3 a4 a5 a6 => w82_2_0 Cl n x4 H0 a0 a1 a2 a3 a4 a5 a6) m
theorem hl82_2 (Cl : Oracle) (n : Nat) (x4 : RowT sh3) (m0 : Nat) : ∀ (m : Nat) (s : S82_2), h82_2 Cl n [(bx sh3 x4)] m0 m s.st = l82_2 Cl n x4 (fun s => h82_0 Cl n [(bx sh3 x4)]  m0 s.st) m s := by
  intro m
  induction m with
  | zero => intro s; kernel_rfl
  | succ m ih =>
    intro s
    cases s with
    | s0 a0 a1 a2 a3 a4 a5 a6 =>
      have h : h82_2 Cl n [(bx sh3 x4)] m0 (m + 1) (s82_2_0 a0 a1 a2 a3 a4 a5 a6) = w82_2_0 Cl n x4 (fun s => h82_0 Cl n [(bx sh3 x4)]  m0 s.st) a0 a1 a2 a3 a4 a5 a6 := by kernel_rfl
      exact h
def l82_1 (Cl : Oracle) (n : Nat) (x4 : RowT sh3) (H0 : S82_0 → OR) (m : Nat) : S82_1 → OR := Nat.rec (fun _ => none) (fun _ ih s => match s with | .s0 a0 a1 a2 a3 a4 a5 a6 a7 a8 a9 a10 => w82_1_0 Cl n x4 ih (l82_2 Cl n x4 H0 n) a0 a1 a2 a3 a4 a5 a6 a7 a8 a9 a10) m
theorem hl82_1 (Cl : Oracle) (n : Nat) (x4 : RowT sh3) (m0 : Nat) : ∀ (m : Nat) (s : S82_1), h82_1 Cl n [(bx sh3 x4)] m0 m s.st = l82_1 Cl n x4 (fun s => h82_0 Cl n [(bx sh3 x4)]  m0 s.st) m s := by
  intro m
  induction m with
  | zero => intro s; kernel_rfl
  | succ m ih =>
    intro s
    have e1 : (fun s => h82_1 Cl n [(bx sh3 x4)] m0 m s.st) = l82_1 Cl n x4 (fun s => h82_0 Cl n [(bx sh3 x4)]  m0 s.st) m := funext ih
    have e2 : (fun s => h82_2 Cl n [(bx sh3 x4)] m0 n s.st) = l82_2 Cl n x4 (fun s => h82_0 Cl n [(bx sh3 x4)]  m0 s.st) n := funext (hl82_2 Cl n x4 m0 n)
    cases s with
    | s0 a0 a1 a2 a3 a4 a5 a6 a7 a8 a9 a10 =>
      have h : h82_1 Cl n [(bx sh3 x4)] m0 (m + 1) (s82_1_0 a0 a1 a2 a3 a4 a5 a6 a7 a8 a9 a10) = w82_1_0 Cl n x4 (fun s => h82_1 Cl n [(bx sh3 x4)] m0 m s.st) (fun s => h82_2 Cl n [(bx sh3 x4)] m0 n s.st) a0 a1 a2 a3 a4 a5 a6 a7 a8 a9 a10 := by kernel_rfl
      rw [e2, e1] at h
      exact h
def l82_0 (Cl : Oracle) (n : Nat) (x4 : RowT sh3)  (m : Nat) : S82_0 → OR := Nat.rec (fun _ => none) (fun _ ih s => match s with | .s0 a0 a1 a2 a3 a4 a5 => w82_0_0 Cl n x4 (l82_1 Cl n x4 ih n) a0 a1 a2 a3 a4 a5) m
theorem hl82_0 (Cl : Oracle) (n : Nat) (x4 : RowT sh3)  : ∀ (m : Nat) (s : S82_0), h82_0 Cl n [(bx sh3 x4)]  m s.st = l82_0 Cl n x4  m s := by
  intro m
  induction m with
  | zero => intro s; kernel_rfl
  | succ m ih =>
    intro s
    have e0 : (fun s => h82_0 Cl n [(bx sh3 x4)]  m s.st) = l82_0 Cl n x4  m := funext ih
    have e1 : (fun s => h82_1 Cl n [(bx sh3 x4)] m n s.st) = l82_1 Cl n x4 (fun s => h82_0 Cl n [(bx sh3 x4)]  m s.st) n := funext (hl82_1 Cl n x4 m n)
    cases s with
    | s0 a0 a1 a2 a3 a4 a5 =>
      have h : h82_0 Cl n [(bx sh3 x4)]  (m + 1) (s82_0_0 a0 a1 a2 a3 a4 a5) = w82_0_0 Cl n x4 (fun s => h82_1 Cl n [(bx sh3 x4)] m n s.st) a0 a1 a2 a3 a4 a5 := by kernel_rfl
      rw [e1, e0] at h
      exact h
def tt82 (Cl : Oracle) (n : Nat) (H0 : S82_0 → OR) (x0 : Bool) (x1 : RR) (x2 : Bool) (x3 : RR) (x4 : RowT sh3) : OR :=
  (tRes rs14 (Cl 83 [pE] [(bx sh3 x4)]) fun v0 => (H0 (.s0 x0 x1 x2 x3 (v0.2.1) (v0.1))))
def t82 (Cl : Oracle) (n : Nat) (x0 : Bool) (x1 : RR) (x2 : Bool) (x3 : RR) (x4 : RowT sh3) : OR := tt82 Cl n (l82_0 Cl n x4 n) x0 x1 x2 x3 x4
theorem pt82 (Cl : Oracle) (n : Nat) (x0 : Bool) (x1 : RR) (x2 : Bool) (x3 : RR) (x4 : RowT sh3) : evBodyA an82 Cl n k82 [pE, (.one (.fn 83 [(.ptr (.e 0) 0 0)] [])), (.one (lC (.im x0) 1 x1)), (.one (lC (.im x2) 1 x3))] [(bx sh3 x4)] = t82 Cl n x0 x1 x2 x3 x4 := by
  have h : evBodyA an82 Cl n k82 [pE, (.one (.fn 83 [(.ptr (.e 0) 0 0)] [])), (.one (lC (.im x0) 1 x1)), (.one (lC (.im x2) 1 x3))] [(bx sh3 x4)] = tt82 Cl n (fun s => h82_0 Cl n [(bx sh3 x4)] n s.st) x0 x1 x2 x3 x4 := by kernel_rfl
  have e0 : (fun s => h82_0 Cl n [(bx sh3 x4)] n s.st) = l82_0 Cl n x4 n := funext (hl82_0 Cl n x4 n)
  rw [e0] at h
  exact h
def t83 (Cl : Oracle) (n : Nat) (x0 : RowT sh3) : OR :=
  (tRes rs14 (Cl 82 [pE, (.one (.fn 92 [(.ptr (.e 0) 0 0)] [])), (.one (lC (.im false) 1 [[(.str [97, 110, 100])]])), (.one (lC (.im false) 1 [[(.int .i64 13)]]))] [(bx sh3 x0)]) fun v0 => (some ((.one (iC (v0.1))), [(bx sh3 (v0.2.1))])))
theorem pt83 (Cl : Oracle) (n : Nat) (x0 : RowT sh3) : evBodyA an83 Cl n k83 [pE] [(bx sh3 x0)] = t83 Cl n x0 := by kernel_rfl
def t90 (Cl : Oracle) (n : Nat) (x0 : Int) : OR :=
  (some ((.agg [(iC x0), (sC []), (iC 0), (sC []), (iC (-1)), (iC (-1))]), []))
theorem pt90 (Cl : Oracle) (n : Nat) (x0 : Int) : evBodyA an90 Cl n k90 [(.one (iC x0))] [] = t90 Cl n x0 := by kernel_rfl
def s91_0_0 (a0 : RowT sh3) (a1 : RowT sh25) : Go.Abs.St := [((.s 0), ⟨pE, 0⟩), ((.r (.e 0)), ⟨(.one (iC 8)), 0⟩), ((.b (.e 0) 0), ⟨(.one (lC (.im a0.1.1) 3 a0.1.2)), 0⟩), ((.b (.e 0) 1), ⟨(.one (iC a0.2.1)), 0⟩), ((.b (.e 0) 2), ⟨(.one (iC a0.2.2.1)), 0⟩), ((.b (.e 0) 3), ⟨(.one (iC a0.2.2.2.1)), 0⟩), ((.b (.e 0) 4), ⟨(.one (sC a0.2.2.2.2.1)), 0⟩), ((.b (.e 0) 5), ⟨(.one (lC a0.2.2.2.2.2.1.1 3 a0.2.2.2.2.2.1.2)), 0⟩), ((.b (.e 0) 6), ⟨(.one (lC a0.2.2.2.2.2.2.1.1 6 a0.2.2.2.2.2.2.1.2)), 0⟩), ((.b (.e 0) 7), ⟨(.one (lC a0.2.2.2.2.2.2.2.1.1 10 a0.2.2.2.2.2.2.2.1.2)), 0⟩), ((.r (.l 3)), ⟨(.one (iC 6)), 1⟩), ((.b (.l 3) 0), ⟨(.one (iC a1.1)), 0⟩), ((.b (.l 3) 1), ⟨(.one (sC a1.2.1)), 0⟩), ((.b (.l 3) 2), ⟨(.one (iC a1.2.2.1)), 0⟩), ((.b (.l 3) 3), ⟨(.one (sC a1.2.2.2.1)), 0⟩), ((.b (.l 3) 4), ⟨(.one (iC a1.2.2.2.2.1)), 0⟩), ((.b (.l 3) 5), ⟨(.one (iC a1.2.2.2.2.2.1)), 0⟩)]
inductive S91_0 where | s0 (a0 : RowT sh3) (a1 : RowT sh25)
def S91_0.st : S91_0 → Go.Abs.St | .s0 a0 a1 => s91_0_0 a0 a1
def w91_0_0 (Cl : Oracle) (n : Nat) (x6 : RowT sh3)  (a0 : RowT sh3) (a1 : RowT sh25) : OR :=
  (tagI (a0.2.2.2.2.2.2.1.1) (fun b1 => (some ((.one (iC (w64 (natI a0.2.2.2.2.2.2.1.2.length - (1 : Int))))), [(bx sh3 (((a0.1.1), (a0.1.2)), (a0.2.1), (a0.2.2.1), (a0.2.2.2.1), (a0.2.2.2.2.1), ((a0.2.2.2.2.2.1.1), (a0.2.2.2.2.2.1.2)), ((.im b1), (a0.2.2.2.2.2.2.1.2)), ((a0.2.2.2.2.2.2.2.1.1), (a0.2.2.2.2.2.2.2.1.2)), ()))]))) (some ((.one (iC (w64 (natI a0.2.2.2.2.2.2.1.2.length - (1 : Int))))), [(bx sh3 (((a0.1.1), (a0.1.2)), (a0.2.1), (a0.2.2.1), (a0.2.2.2.1), (a0.2.2.2.2.1), ((a0.2.2.2.2.2.1.1), (a0.2.2.2.2.2.1.2)), (.own, (a0.2.2.2.2.2.2.1.2)), ((a0.2.2.2.2.2.2.2.1.1), (a0.2.2.2.2.2.2.2.1.2)), ()))])))
def l91_0 (Cl : Oracle) (n : Nat) (x6 : RowT sh3)  (m : Nat) : S91_0 → OR := Nat.rec (fun _ => none) (fun _ ih s => match s with | .s0 a0 a1 => w91_0_0 Cl n x6  a0 a1) m
theorem hl91_0 (Cl : Oracle) (n : Nat) (x6 : RowT sh3)  : ∀ (m : Nat) (s : S91_0), h91_0 Cl n [(bx sh3 x6)]  m s.st = l91_0 Cl n x6  m s := by
  intro m
  induction m with
  | zero => intro s; kernel_rfl
  | succ m ih =>
    intro s
    cases s with
    | s0 a0 a1 =>
      have h : h91_0 Cl n [(bx sh3 x6)]  (m + 1) (s91_0_0 a0 a1) = w91_0_0 Cl n x6  a0 a1 := by kernel_rfl
      exact h
def tt91 (Cl : Oracle) (n : Nat) (H0 : S91_0 → OR) (x0 : Int) (x1 : BB) (x2 : Int) (x3 : BB) (x4 : Int) (x5 : Int) (x6 : RowT sh3) : OR :=
  (tagI (x6.2.2.2.2.2.2.1.1) (fun b0 => (gd (b0 && true && true) (H0 (.s0 (((x6.1.1), (x6.1.2)), (x6.2.1), (x6.2.2.1), (x6.2.2.2.1), (x6.2.2.2.2.1), ((x6.2.2.2.2.2.1.1), (x6.2.2.2.2.2.1.2)), (.own, [[(.int .i64 x0), (.str x1), (.int .i64 x2), (.str x3), (.int .i64 x4), (.int .i64 x5)]]), ((x6.2.2.2.2.2.2.2.1.1), (x6.2.2.2.2.2.2.2.1.2)), ()) (x0, x1, x2, x3, x4, x5, ()))))) (gd (x6.2.2.2.2.2.2.1.2.length == x6.2.2.2.2.2.2.1.2.length && true && decide ((x6.2.2.2.2.2.2.1.2.length + 1) * 64 ≤ 140737488355328)) (H0 (.s0 (((x6.1.1), (x6.1.2)), (x6.2.1), (x6.2.2.1), (x6.2.2.2.1), (x6.2.2.2.2.1), ((x6.2.2.2.2.2.1.1), (x6.2.2.2.2.2.1.2)), (.own, (x6.2.2.2.2.2.2.1.2 ++ [[D.int .i64 (0 : Int), D.str [], D.int .i64 (0 : Int), D.str [], D.int .i64 (0 : Int), D.int .i64 (0 : Int)]].set 0 [D.int .i64 x0, D.str x1, D.int .i64 x2, D.str x3, D.int .i64 x4, D.int .i64 x5])), ((x6.2.2.2.2.2.2.2.1.1), (x6.2.2.2.2.2.2.2.1.2)), ()) (x0, x1, x2, x3, x4, x5, ())))))
def t91 (Cl : Oracle) (n : Nat) (x0 : Int) (x1 : BB) (x2 : Int) (x3 : BB) (x4 : Int) (x5 : Int) (x6 : RowT sh3) : OR := tt91 Cl n (l91_0 Cl n x6 n) x0 x1 x2 x3 x4 x5 x6
theorem pt91 (Cl : Oracle) (n : Nat) (x0 : Int) (x1 : BB) (x2 : Int) (x3 : BB) (x4 : Int) (x5 : Int) (x6 : RowT sh3) : evBodyA an91 Cl n k91 [pE, (.agg [(iC x0), (sC x1), (iC x2), (sC x3), (iC x4), (iC x5)])] [(bx sh3 x6)] = t91 Cl n x0 x1 x2 x3 x4 x5 x6 := by
  have h : evBodyA an91 Cl n k91 [pE, (.agg [(iC x0), (sC x1), (iC x2), (sC x3), (iC x4), (iC x5)])] [(bx sh3 x6)] = tt91 Cl n (fun s => h91_0 Cl n [(bx sh3 x6)] n s.st) x0 x1 x2 x3 x4 x5 x6 := by kernel_rfl
  have e0 : (fun s => h91_0 Cl n [(bx sh3 x6)] n s.st) = l91_0 Cl n x6 n := funext (hl91_0 Cl n x6 n)
  rw [e0] at h
  exact h
def s82x1_0_0 (a0 : Bool) (a1 : RR) (a2 : Bool) (a3 : RR) (a4 : RowT sh3) (a5 : Int) : Go.Abs.St := [((.s 0), ⟨pE, 0⟩), ((.s 1), ⟨(.one (.fn 92 [(.ptr (.e 0) 0 0)] [])), 0⟩), ((.s 2), ⟨(.one (lC (.im a0) 1 a1)), 0⟩), ((.s 3), ⟨(.one (lC (.im a2) 1 a3)), 0⟩), ((.r (.e 0)), ⟨(.one (iC 8)), 0⟩), ((.b (.e 0) 0), ⟨(.one (lC (.im a4.1.1) 3 a4.1.2)), 0⟩), ((.b (.e 0) 1), ⟨(.one (iC a4.2.1)), 0⟩), ((.b (.e 0) 2), ⟨(.one (iC a4.2.2.1)), 0⟩), ((.b (.e 0) 3), ⟨(.one (iC a4.2.2.2.1)), 0⟩), ((.b (.e 0) 4), ⟨(.one (sC a4.2.2.2.2.1)), 0⟩), ((.b (.e 0) 5), ⟨(.one (lC a4.2.2.2.2.2.1.1 3 a4.2.2.2.2.2.1.2)), 0⟩), ((.b (.e 0) 6), ⟨(.one (lC a4.2.2.2.2.2.2.1.1 6 a4.2.2.2.2.2.2.1.2)), 0⟩), ((.b (.e 0) 7), ⟨(.one (lC a4.2.2.2.2.2.2.2.1.1 10 a4.2.2.2.2.2.2.2.1.2)), 0⟩), ((.s 9), ⟨(.one (iC a5)), 0⟩)]
def s82x1_1_0 (a0 : Bool) (a1 : RR) (a2 : Bool) (a3 : RR) (a4 : RowT sh3) (a5 : Int) (a6 : Int) (a7 : Bool) (a8 : RR) (a9 : Int) (a10 : Int) : Go.Abs.St := [((.s 0), ⟨pE, 0⟩), ((.s 1), ⟨(.one (.fn 92 [(.ptr (.e 0) 0 0)] [])), 0⟩), ((.s 2), ⟨(.one (lC (.im a0) 1 a1)), 0⟩), ((.s 3), ⟨(.one (lC (.im a2) 1 a3)), 0⟩), ((.r (.e 0)), ⟨(.one (iC 8)), 0⟩), ((.b (.e 0) 0), ⟨(.one (lC (.im a4.1.1) 3 a4.1.2)), 0⟩), ((.b (.e 0) 1), ⟨(.one (iC a4.2.1)), 0⟩), ((.b (.e 0) 2), ⟨(.one (iC a4.2.2.1)), 0⟩), ((.b (.e 0) 3), ⟨(.one (iC a4.2.2.2.1)), 0⟩), ((.b (.e 0) 4), ⟨(.one (sC a4.2.2.2.2.1)), 0⟩), ((.b (.e 0) 5), ⟨(.one (lC a4.2.2.2.2.2.1.1 3 a4.2.2.2.2.2.1.2)), 0⟩), ((.b (.e 0) 6), ⟨(.one (lC a4.2.2.2.2.2.2.1.1 6 a4.2.2.2.2.2.2.1.2)), 0⟩), ((.b (.e 0) 7), ⟨(.one (lC a4.2.2.2.2.2.2.2.1.1 10 a4.2.2.2.2.2.2.2.1.2)), 0⟩), ((.s 9), ⟨(.one (iC a5)), 0⟩), ((.s 10), ⟨(.one (iC a6)), 0⟩), ((.s 21), ⟨(.one (lC (.im a7) 1 a8)), 0⟩), ((.s 22), ⟨(.one (iC a9)), 0⟩), ((.s 23), ⟨(.one (iC a10)), 0⟩)]
def s82x1_2_0 (a0 : Bool) (a1 : RR) (a2 : Bool) (a3 : RR) (a4 : RowT sh3) (a5 : Int) (a6 : Int) : Go.Abs.St := [((.s 0), ⟨pE, 0⟩), ((.s 1), ⟨(.one (.fn 92 [(.ptr (.e 0) 0 0)] [])), 0⟩), ((.s 2), ⟨(.one (lC (.im a0) 1 a1)), 0⟩), ((.s 3), ⟨(.one (lC (.im a2) 1 a3)), 0⟩), ((.r (.e 0)), ⟨(.one (iC 8)), 0⟩), ((.b (.e 0) 0), ⟨(.one (lC (.im a4.1.1) 3 a4.1.2)), 0⟩), ((.b (.e 0) 1), ⟨(.one (iC a4.2.1)), 0⟩), ((.b (.e 0) 2), ⟨(.one (iC a4.2.2.1)), 0⟩), ((.b (.e 0) 3), ⟨(.one (iC a4.2.2.2.1)), 0⟩), ((.b (.e 0) 4), ⟨(.one (sC a4.2.2.2.2.1)), 0⟩), ((.b (.e 0) 5), ⟨(.one (lC a4.2.2.2.2.2.1.1 3 a4.2.2.2.2.2.1.2)), 0⟩), ((.b (.e 0) 6), ⟨(.one (lC a4.2.2.2.2.2.2.1.1 6 a4.2.2.2.2.2.2.1.2)), 0⟩), ((.b (.e 0) 7), ⟨(.one (lC a4.2.2.2.2.2.2.2.1.1 10 a4.2.2.2.2.2.2.2.1.2)), 0⟩), ((.s 9), ⟨(.one (iC a5)), 0⟩), ((.s 10), ⟨(.one (iC a6)), 0⟩)]
inductive S82x1_0 where | s0 (a0 : Bool) (a1 : RR) (a2 : Bool) (a3 : RR) (a4 : RowT sh3) (a5 : Int)
def S82x1_0.st : S82x1_0 → Go.Abs.St | .s0 a0 a1 a2 a3 a4 a5 => s82x1_0_0 a0 a1 a2 a3 a4 a5
inductive S82x1_1 where | s0 (a0 : Bool) (a1 : RR) (a2 : Bool) (a3 : RR) (a4 : RowT sh3) (a5 : Int) (a6 : Int) (a7 : Bool) (a8 : RR) (a9 : Int) (a10 : Int)
def S82x1_1.st : S82x1_1 → Go.Abs.St | .s0 a0 a1 a2 a3 a4 a5 a6 a7 a8 a9 a10 => s82x1_1_0 a0 a1 a2 a3 a4 a5 a6 a7 a8 a9 a10
inductive S82x1_2 where | s0 (a0 : Bool) (a1 : RR) (a2 : Bool) (a3 : RR) (a4 : RowT sh3) (a5 : Int) (a6 : Int)
def S82x1_2.st : S82x1_2 → Go.Abs.St | .s0 a0 a1 a2 a3 a4 a5 a6 => s82x1_2_0 a0 a1 a2 a3 a4 a5 a6
def w82x1_0_0 (Cl : Oracle) (n : Nat) (x4 : RowT sh3) (H1 : S82x1_1 → OR) (a0 : Bool) (a1 : RR) (a2 : Bool) (a3 : RR) (a4 : RowT sh3) (a5 : Int) : OR :=
  (tRes rs3 (Cl 14 [pE] [(bx sh3 a4)]) fun v1 => (bif (!v1.1) then (H1 (.s0 a0 a1 a2 a3 (v1.2.1) a5 (-1) a0 a1 (natI a1.length) 0)) else (some ((.one (iC a5)), [(bx sh3 (v1.2.1))]))))
def w82x1_1_0 (Cl : Oracle) (n : Nat) (x4 : RowT sh3) (H1 : S82x1_1 → OR) (H2 : S82x1_2 → OR) (a0 : Bool) (a1 : RR) (a2 : Bool) (a3 : RR) (a4 : RowT sh3) (a5 : Int) (a6 : Int) (a7 : Bool) (a8 : RR) (a9 : Int) (a10 : Int) : OR :=
  (bif (decide (a10 < a9)) then (qOpt (asI a10) fun o2 => (qOpt (a8[o2]?) fun o3 => (gd (decide (1 ≤ o3.length)) (tRow [.str] (List.take 1 o3) fun v4 => (tRes rs3 (Cl 9 [pE, (.one (sC (v4.1)))] [(bx sh3 a4)]) fun v5 => (bif (v5.1) then (qOpt (asI a10) fun o6 => (qOpt (a3[o6]?) fun o7 => (gd (decide (1 ≤ o7.length)) (tRow sh1 (List.take 1 o7) fun v8 => (H2 (.s0 a0 a1 a2 a3 (v5.2.1) a5 (v8.1))))))) else (H1 (.s0 a0 a1 a2 a3 (v5.2.1) a5 a6 a7 a8 a9 (w64 (a10 + (1 : Int))))))))))) else (H2 (.s0 a0 a1 a2 a3 a4 a5 a6)))
def w82x1_2_0 (Cl : Oracle) (n : Nat) (x4 : RowT sh3) (H0 : S82x1_0 → OR) (a0 : Bool) (a1 : RR) (a2 : Bool) (a3 : RR) (a4 : RowT sh3) (a5 : Int) (a6 : Int) : OR :=
  (bif (decide (a6 < (0 : Int))) then (some ((.one (iC a5)), [(bx sh3 a4)])) else (tRes rs27 (Cl 90 [(.one (iC a6))] []) fun v9 => (tRes rs14 (Cl 92 [pE] [(bx sh3 a4)]) fun v10 => (tRes rs14 (Cl 91 [pE, (.agg [(iC (v9.1.1)), (sC (v9.1.2.1)), (iC (v9.1.2.2.1)), (sC (v9.1.2.2.2.1)), (iC a5), (iC (v10.1))])] [(bx sh3 (v10.2.1))]) fun v11 => (H0 (.s0 a0 a1 a2 a3 (v11.2.1) (v11.1)))))))
def l82x1_2 (Cl : Oracle) (n : Nat) (x4 : RowT sh3) (H0 : S82x1_0 → OR) (m : Nat) : S82x1_2 → OR := Nat.rec (fun _ => none) (fun _ ih s => match s with | .s0 a0 a1 a2 a3 a4 a5 a6 => w82x1_2_0 Cl n x4 H0 a0 a1 a2 a3 a4 a5 a6) m
theorem hl82x1_2 (Cl : Oracle) (n : Nat) (x4 : RowT sh3) (m0 : Nat) : ∀ (m : Nat) (s : S82x1_2), h82_2 Cl n [(bx sh3 x4)] m0 m s.st = l82x1_2 Cl n x4 (fun s => h82_0 Cl n [(bx sh3 x4)]  m0 s.st) m s := by
  intro m
  induction m with
  | zero => intro s; kernel_rfl
  | succ m ih =>
    intro s
    cases s with
    | s0 a0 a1 a2 a3 a4 a5 a6 =>
      have h : h82_2 Cl n [(bx sh3 x4)] m0 (m + 1) (s82x1_2_0 a0 a1 a2 a3 a4 a5 a6) = w82x1_2_0 Cl n x4 (fun s => h82_0 Cl n [(bx sh3 x4)]  m0 s.st) a0 a1 a2 a3 a4 a5 a6 := by kernel_rfl
      exact h
def l82x1_1 (Cl : Oracle) (n : Nat) (x4 : RowT sh3) (H0 : S82x1_0 → OR) (m : Nat) : S82x1_1 → OR := Nat.rec (fun _ => none) (fun _ ih s => match s with | .s0 a0 a1 a2 a3 a4 a5 a6 a7 a8 a9 a10 => w82x1_1_0 Cl n x4 ih (l82x1_2 Cl n x4 H0 n) a0 a1 a2 a3 a4 a5 a6 a7 a8 a9 a10) m
theorem hl82x1_1 (Cl : Oracle) (n : Nat) (x4 : RowT sh3) (m0 : Nat) : ∀ (m : Nat) (s : S82x1_1), h82_1 Cl n [(bx sh3 x4)] m0 m s.st = l82x1_1 Cl n x4 (fun s => h82_0 Cl n [(bx sh3 x4)]  m0 s.st) m s := by
  intro m
  induction m with
  | zero => intro s; kernel_rfl
  | succ m ih =>
    intro s
    have e1 : (fun s => h82_1 Cl n [(bx sh3 x4)] m0 m s.st) = l82x1_1 Cl n x4 (fun s => h82_0 Cl n [(bx sh3 x4)]  m0 s.st) m := funext ih
    have e2 : (fun s => h82_2 Cl n [(bx sh3 x4)] m0 n s.st) = l82x1_2 Cl n x4 (fun s => h82_0 Cl n [(bx sh3 x4)]  m0 s.st) n := funext (hl82x1_2 Cl n x4 m0 n)
    cases s with
    | s0 a0 a1 a2 a3 a4 a5 a6 a7 a8 a9 a10 =>
      have h : h82_1 Cl n [(bx sh3 x4)] m0 (m + 1) (s82x1_1_0 a0 a1 a2 a3 a4 a5 a6 a7 a8 a9 a10) = w82x1_1_0 Cl n x4 (fun s => h82_1 Cl n [(bx sh3 x4)] m0 m s.st) (fun s => h82_2 Cl n [(bx sh3 x4)] m0 n s.st) a0 a1 a2 a3 a4 a5 a6 a7 a8 a9 a10 := by kernel_rfl
      rw [e2, e1] at h
      exact h
def l82x1_0 (Cl : Oracle) (n : Nat) (x4 : RowT sh3)  (m : Nat) : S82x1_0 → OR := Nat.rec (fun _ => none) (fun _ ih s => match s with | .s0 a0 a1 a2 a3 a4 a5 => w82x1_0_0 Cl n x4 (l82x1_1 Cl n x4 ih n) a0 a1 a2 a3 a4 a5) m
theorem hl82x1_0 (Cl : Oracle) (n : Nat) (x4 : RowT sh3)  : ∀ (m : Nat) (s : S82x1_0), h82_0 Cl n [(bx sh3 x4)]  m s.st = l82x1_0 Cl n x4  m s := by
  intro m
  induction m with
  | zero => intro s; kernel_rfl
  | succ m ih =>
    intro s
    have e0 : (fun s => h82_0 Cl n [(bx sh3 x4)]  m s.st) = l82x1_0 Cl n x4  m := funext ih
    have e1 : (fun s => h82_1 Cl n [(bx sh3 x4)] m n s.st) = l82x1_1 Cl n x4 (fun s => h82_0 Cl n [(bx sh3 x4)]  m s.st) n := funext (hl82x1_1 Cl n x4 m n)
    cases s with
    | s0 a0 a1 a2 a3 a4 a5 =>
      have h : h82_0 Cl n [(bx sh3 x4)]  (m + 1) (s82x1_0_0 a0 a1 a2 a3 a4 a5) = w82x1_0_0 Cl n x4 (fun s => h82_1 Cl n [(bx sh3 x4)] m n s.st) a0 a1 a2 a3 a4 a5 := by kernel_rfl
      rw [e1, e0] at h
      exact h
def tt82x1 (Cl : Oracle) (n : Nat) (H0 : S82x1_0 → OR) (x0 : Bool) (x1 : RR) (x2 : Bool) (x3 : RR) (x4 : RowT sh3) : OR :=
  (tRes rs14 (Cl 92 [pE] [(bx sh3 x4)]) fun v0 => (H0 (.s0 x0 x1 x2 x3 (v0.2.1) (v0.1))))
def t82x1 (Cl : Oracle) (n : Nat) (x0 : Bool) (x1 : RR) (x2 : Bool) (x3 : RR) (x4 : RowT sh3) : OR := tt82x1 Cl n (l82x1_0 Cl n x4 n) x0 x1 x2 x3 x4
theorem pt82x1 (Cl : Oracle) (n : Nat) (x0 : Bool) (x1 : RR) (x2 : Bool) (x3 : RR) (x4 : RowT sh3) : evBodyA an82 Cl n k82 [pE, (.one (.fn 92 [(.ptr (.e 0) 0 0)] [])), (.one (lC (.im x0) 1 x1)), (.one (lC (.im x2) 1 x3))] [(bx sh3 x4)] = t82x1 Cl n x0 x1 x2 x3 x4 := by
  have h : evBodyA an82 Cl n k82 [pE, (.one (.fn 92 [(.ptr (.e 0) 0 0)] [])), (.one (lC (.im x0) 1 x1)), (.one (lC (.im x2) 1 x3))] [(bx sh3 x4)] = tt82x1 Cl n (fun s => h82_0 Cl n [(bx sh3 x4)] n s.st) x0 x1 x2 x3 x4 := by kernel_rfl
  have e0 : (fun s => h82_0 Cl n [(bx sh3 x4)] n s.st) = l82x1_0 Cl n x4 n := funext (hl82x1_0 Cl n x4 n)
  rw [e0] at h
  exact h
def s92_0_0 (a0 : RowT sh3) (a1 : RowT sh25) : Go.Abs.St := [((.s 0), ⟨pE, 0⟩), ((.r (.e 0)), ⟨(.one (iC 8)), 0⟩), ((.b (.e 0) 0), ⟨(.one (lC (.im a0.1.1) 3 a0.1.2)), 0⟩), ((.b (.e 0) 1), ⟨(.one (iC a0.2.1)), 0⟩), ((.b (.e 0) 2), ⟨(.one (iC a0.2.2.1)), 0⟩), ((.b (.e 0) 3), ⟨(.one (iC a0.2.2.2.1)), 0⟩), ((.b (.e 0) 4), ⟨(.one (sC a0.2.2.2.2.1)), 0⟩), ((.b (.e 0) 5), ⟨(.one (lC a0.2.2.2.2.2.1.1 3 a0.2.2.2.2.2.1.2)), 0⟩), ((.b (.e 0) 6), ⟨(.one (lC a0.2.2.2.2.2.2.1.1 6 a0.2.2.2.2.2.2.1.2)), 0⟩), ((.b (.e 0) 7), ⟨(.one (lC a0.2.2.2.2.2.2.2.1.1 10 a0.2.2.2.2.2.2.2.1.2)), 0⟩), ((.r (.l 4)), ⟨(.one (iC 6)), 1⟩), ((.b (.l 4) 0), ⟨(.one (iC a1.1)), 0⟩), ((.b (.l 4) 1), ⟨(.one (sC a1.2.1)), 0⟩), ((.b (.l 4) 2), ⟨(.one (iC a1.2.2.1)), 0⟩), ((.b (.l 4) 3), ⟨(.one (sC a1.2.2.2.1)), 0⟩), ((.b (.l 4) 4), ⟨(.one (iC a1.2.2.2.2.1)), 0⟩), ((.b (.l 4) 5), ⟨(.one (iC a1.2.2.2.2.2.1)), 0⟩), ((.s 4), ⟨(.one (.ptr (.l 4) 1 0)), 0⟩)]
inductive S92_0 where | s0 (a0 : RowT sh3) (a1 : RowT sh25)
def S92_0.st : S92_0 → Go.Abs.St | .s0 a0 a1 => s92_0_0 a0 a1
def w92_0_0 (Cl : Oracle) (n : Nat) (x0 : RowT sh3)  (a0 : RowT sh3) (a1 : RowT sh25) : OR :=
  (tRes rs14 (Cl 95 [pE] [(bx sh3 a0)]) fun v8 => (tRes rs14 (Cl 91 [pE, (.agg [(iC (a1.1)), (sC (a1.2.1)), (iC (a1.2.2.1)), (sC (a1.2.2.2.1)), (iC (a1.2.2.2.2.1)), (iC (v8.1))])] [(bx sh3 (v8.2.1))]) fun v9 => (some ((.one (iC (v9.1))), [(bx sh3 (v9.2.1))]))))
def l92_0 (Cl : Oracle) (n : Nat) (x0 : RowT sh3)  (m : Nat) : S92_0 → OR := Nat.rec (fun _ => none) (fun _ ih s => match s with | .s0 a0 a1 => w92_0_0 Cl n x0  a0 a1) m
theorem hl92_0 (Cl : Oracle) (n : Nat) (x0 : RowT sh3)  : ∀ (m : Nat) (s : S92_0), h92_0 Cl n [(bx sh3 x0)]  m s.st = l92_0 Cl n x0  m s := by
  intro m
  induction m with
  | zero => intro s; kernel_rfl
  | succ m ih =>
    intro s
    cases s with
    | s0 a0 a1 =>
      have h : h92_0 Cl n [(bx sh3 x0)]  (m + 1) (s92_0_0 a0 a1) = w92_0_0 Cl n x0  a0 a1 := by kernel_rfl
      exact h
def tt92 (Cl : Oracle) (n : Nat) (H0 : S92_0 → OR) (x0 : RowT sh3) : OR :=
  (tRes rs3 (Cl 9 [pE, (.one (sC [110, 111, 116]))] [(bx sh3 x0)]) fun v0 => (bif (v0.1) then (tRes rs27 (Cl 90 [(.one (iC 15))] []) fun v1 => (tRes rs14 (Cl 92 [pE] [(bx sh3 (v0.2.1))]) fun v2 => (tRes rs14 (Cl 91 [pE, (.agg [(iC (v1.1.1)), (sC (v1.1.2.1)), (iC (v1.1.2.2.1)), (sC (v1.1.2.2.2.1)), (iC (v2.1)), (iC (v1.1.2.2.2.2.2.1))])] [(bx sh3 (v2.2.1))]) fun v3 => (some ((.one (iC (v3.1))), [(bx sh3 (v3.2.1))]))))) else (tRes rs27 (Cl 90 [(.one (iC 11))] []) fun v4 => (tRes rs14 (Cl 95 [pE] [(bx sh3 (v0.2.1))]) fun v5 => (tRes rs3 (Cl 9 [pE, (.one (sC [61, 61]))] [(bx sh3 (v5.2.1))]) fun v6 => (bif (v6.1) then (H0 (.s0 (v6.2.1) ((v4.1.1), (v4.1.2.1), (v4.1.2.2.1), (v4.1.2.2.2.1), (v5.1), (v4.1.2.2.2.2.2.1), ()))) else (tRes rs3 (Cl 9 [pE, (.one (sC [60]))] [(bx sh3 (v6.2.1))]) fun v7 => (bif (v7.1) then (H0 (.s0 (v7.2.1) (12, (v4.1.2.1), (v4.1.2.2.1), (v4.1.2.2.2.1), (v5.1), (v4.1.2.2.2.2.2.1), ()))) else (some ((.one (iC (v5.1))), [(bx sh3 (v7.2.1))]))))))))))
def t92 (Cl : Oracle) (n : Nat) (x0 : RowT sh3) : OR := tt92 Cl n (l92_0 Cl n x0 n) x0
theorem pt92 (Cl : Oracle) (n : Nat) (x0 : RowT sh3) : evBodyA an92 Cl n k92 [pE] [(bx sh3 x0)] = t92 Cl n x0 := by
  have h : evBodyA an92 Cl n k92 [pE] [(bx sh3 x0)] = tt92 Cl n (fun s => h92_0 Cl n [(bx sh3 x0)] n s.st) x0 := by kernel_rfl
  have e0 : (fun s => h92_0 Cl n [(bx sh3 x0)] n s.st) = l92_0 Cl n x0 n := funext (hl92_0 Cl n x0 n)
  rw [e0] at h
  exact h
def t95 (Cl : Oracle) (n : Nat) (x0 : RowT sh3) : OR :=
  (tRes rs14 (Cl 82 [pE, (.one (.fn 96 [(.ptr (.e 0) 0 0)] [])), (.one (lC (.im false) 1 [[(.str [43])], [(.str [45])]])), (.one (lC (.im false) 1 [[(.int .i64 6)], [(.int .i64 7)]]))] [(bx sh3 x0)]) fun v0 => (some ((.one (iC (v0.1))), [(bx sh3 (v0.2.1))])))
theorem pt95 (Cl : Oracle) (n : Nat) (x0 : RowT sh3) : evBodyA an95 Cl n k95 [pE] [(bx sh3 x0)] = t95 Cl n x0 := by kernel_rfl
def s82x2_0_0 (a0 : Bool) (a1 : RR) (a2 : Bool) (a3 : RR) (a4 : RowT sh3) (a5 : Int) : Go.Abs.St := [((.s 0), ⟨pE, 0⟩), ((.s 1), ⟨(.one (.fn 96 [(.ptr (.e 0) 0 0)] [])), 0⟩), ((.s 2), ⟨(.one (lC (.im a0) 1 a1)), 0⟩), ((.s 3), ⟨(.one (lC (.im a2) 1 a3)), 0⟩), ((.r (.e 0)), ⟨(.one (iC 8)), 0⟩), ((.b (.e 0) 0), ⟨(.one (lC (.im a4.1.1) 3 a4.1.2)), 0⟩), ((.b (.e 0) 1), ⟨(.one (iC a4.2.1)), 0⟩), ((.b (.e 0) 2), ⟨(.one (iC a4.2.2.1)), 0⟩), ((.b (.e 0) 3), ⟨(.one (iC a4.2.2.2.1)), 0⟩), ((.b (.e 0) 4), ⟨(.one (sC a4.2.2.2.2.1)), 0⟩), ((.b (.e 0) 5), ⟨(.one (lC a4.2.2.2.2.2.1.1 3 a4.2.2.2.2.2.1.2)), 0⟩), ((.b (.e 0) 6), ⟨(.one (lC a4.2.2.2.2.2.2.1.1 6 a4.2.2.2.2.2.2.1.2)), 0⟩), ((.b (.e 0) 7), ⟨(.one (lC a4.2.2.2.2.2.2.2.1.1 10 a4.2.2.2.2.2.2.2.1.2)), 0⟩), ((.s 9), ⟨(.one (iC a5)), 0⟩)]
def s82x2_1_0 (a0 : Bool) (a1 : RR) (a2 : Bool) (a3 : RR) (a4 : RowT sh3) (a5 : Int) (a6 : Int) (a7 : Bool) (a8 : RR) (a9 : Int) (a10 : Int) : Go.Abs.St := [((.s 0), ⟨pE, 0⟩), ((.s 1), ⟨(.one (.fn 96 [(.ptr (.e 0) 0 0)] [])), 0⟩), ((.s 2), ⟨(.one (lC (.im a0) 1 a1)), 0⟩), ((.s 3), ⟨(.one (lC (.im a2) 1 a3)), 0⟩), ((.r (.e 0)), ⟨(.one (iC 8)), 0⟩), ((.b (.e 0) 0), ⟨(.one (lC (.im a4.1.1) 3 a4.1.2)), 0⟩), ((.b (.e 0) 1), ⟨(.one (iC a4.2.1)), 0⟩), ((.b (.e 0) 2), ⟨(.one (iC a4.2.2.1)), 0⟩), ((.b (.e 0) 3), ⟨(.one (iC a4.2.2.2.1)), 0⟩), ((.b (.e 0) 4), ⟨(.one (sC a4.2.2.2.2.1)), 0⟩), ((.b (.e 0) 5), ⟨(.one (lC a4.2.2.2.2.2.1.1 3 a4.2.2.2.2.2.1.2)), 0⟩), ((.b (.e 0) 6), ⟨(.one (lC a4.2.2.2.2.2.2.1.1 6 a4.2.2.2.2.2.2.1.2)), 0⟩), ((.b (.e 0) 7), ⟨(.one (lC a4.2.2.2.2.2.2.2.1.1 10 a4.2.2.2.2.2.2.2.1.2)), 0⟩), ((.s 9), ⟨(.one (iC a5)), 0⟩), ((.s 10), ⟨(.one (iC a6)), 0⟩), ((.s 21), ⟨(.one (lC (.im a7) 1 a8)), 0⟩), ((.s 22), ⟨(.one (iC a9)), 0⟩), ((.s 23), ⟨(.one (iC a10)), 0⟩)]
def s82x2_2_0 (a0 : Bool) (a1 : RR) (a2 : Bool) (a3 : RR) (a4 : RowT sh3) (a5 : Int) (a6 : Int) : Go.Abs.St := [((.s 0), ⟨pE, 0⟩), ((.s 1), ⟨(.one (.fn 96 [(.ptr (.e 0) 0 0)] [])), 0⟩), ((.s 2), ⟨(.one (lC (.im a0) 1 a1)), 0⟩), ((.s 3), ⟨(.one (lC (.im a2) 1 a3)), 0⟩), ((.r (.e 0)), ⟨(.one (iC 8)), 0⟩), ((.b (.e 0) 0), ⟨(.one (lC (.im a4.1.1) 3 a4.1.2)), 0⟩), ((.b (.e 0) 1), ⟨(.one (iC a4.2.1)), 0⟩), ((.b (.e 0) 2), ⟨(.one (iC a4.2.2.1)), 0⟩), ((.b (.e 0) 3), ⟨(.one (iC a4.2.2.2.1)), 0⟩), ((.b (.e 0) 4), ⟨(.one (sC a4.2.2.2.2.1)), 0⟩), ((.b (.e 0) 5), ⟨(.one (lC a4.2.2.2.2.2.1.1 3 a4.2.2.2.2.2.1.2)), 0⟩), ((.b (.e 0) 6), ⟨(.one (lC a4.2.2.2.2.2.2.1.1 6 a4.2.2.2.2.2.2.1.2)), 0⟩), ((.b (.e 0) 7), ⟨(.one (lC a4.2.2.2.2.2.2.2.1.1 10 a4.2.2.2.2.2.2.2.1.2)), 0⟩), ((.s 9), ⟨(.one (iC a5)), 0⟩), ((.s 10), ⟨(.one (iC a6)), 0⟩)]
inductive S82x2_0 where | s0 (a0 : Bool) (a1 : RR) (a2 : Bool) (a3 : RR) (a4 : RowT sh3) (a5 : Int)
def S82x2_0.st : S82x2_0 → Go.Abs.St | .s0 a0 a1 a2 a3 a4 a5 => s82x2_0_0 a0 a1 a2 a3 a4 a5
inductive S82x2_1 where | s0 (a0 : Bool) (a1 : RR) (a2 : Bool) (a3 : RR) (a4 : RowT sh3) (a5 : Int) (a6 : Int) (a7 : Bool) (a8 : RR) (a9 : Int) (a10 : Int)
def S82x2_1.st : S82x2_1 → Go.Abs.St | .s0 a0 a1 a2 a3 a4 a5 a6 a7 a8 a9 a10 => s82x2_1_0 a0 a1 a2 a3 a4 a5 a6 a7 a8 a9 a10
inductive S82x2_2 where | s0 (a0 : Bool) (a1 : RR) (a2 : Bool) (a3 : RR) (a4 : RowT sh3) (a5 : Int) (a6 : Int)
def S82x2_2.st : S82x2_2 → Go.Abs.St | .s0 a0 a1 a2 a3 a4 a5 a6 => s82x2_2_0 a0 a1 a2 a3 a4 a5 a6
def w82x2_0_0 (Cl : Oracle) (n : Nat) (x4 : RowT sh3) (H1 : S82x2_1 → OR) (a0 : Bool) (a1 : RR) (a2 : Bool) (a3 : RR) (a4 : RowT sh3) (a5 : Int) : OR :=
  (tRes rs3 (Cl 14 [pE] [(bx sh3 a4)]) fun v1 => (bif (!v1.1) then (H1 (.s0 a0 a1 a2 a3 (v1.2.1) a5 (-1) a0 a1 (natI a1.length) 0)) else (some ((.one (iC a5)), [(bx sh3 (v1.2.1))]))))
def w82x2_1_0 (Cl : Oracle) (n : Nat) (x4 : RowT sh3) (H1 : S82x2_1 → OR) (H2 : S82x2_2 → OR) (a0 : Bool) (a1 : RR) (a2 : Bool) (a3 : RR) (a4 : RowT sh3) (a5 : Int) (a6 : Int) (a7 : Bool) (a8 : RR) (a9 : Int) (a10 : Int) : OR :=
  (bif (decide (a10 < a9)) then (qOpt (asI a10) fun o2 => (qOpt (a8[o2]?) fun o3 => (gd (decide (1 ≤ o3.length)) (tRow [.str] (List.take 1 o3) fun v4 => (tRes rs3 (Cl 9 [pE, (.one (sC (v4.1)))] [(bx sh3 a4)]) fun v5 => (bif (v5.1) then (qOpt (asI a10) fun o6 => (qOpt (a3[o6]?) fun o7 => (gd (decide (1 ≤ o7.length)) (tRow sh1 (List.take 1 o7) fun v8 => (H2 (.s0 a0 a1 a2 a3 (v5.2.1) a5 (v8.1))))))) else (H1 (.s0 a0 a1 a2 a3 (v5.2.1) a5 a6 a7 a8 a9 (w64 (a10 + (1 : Int))))))))))) else (H2 (.s0 a0 a1 a2 a3 a4 a5 a6)))
def w82x2_2_0 (Cl : Oracle) (n : Nat) (x4 : RowT sh3) (H0 : S82x2_0 → OR) (a0 : Bool) (a1 : RR) (a2 : Bool) (a3 : RR) (a4 : RowT sh3) (a5 : Int) (a6 : Int) : OR :=
  (bif (decide (a6 < (0 : Int))) then (some ((.one (iC a5)), [(bx sh3 a4)])) else (tRes rs27 (Cl 90 [(.one (iC a6))] []) fun v9 => (tRes rs14 (Cl 96 [pE] [(bx sh3 a4)]) fun v10 => (tRes rs14 (Cl 91 [pE, (.agg [(iC (v9.1.1)), (sC (v9.1.2.1)), (iC (v9.1.2.2.1)), (sC (v9.1.2.2.2.1)), (iC a5), (iC (v10.1))])] [(bx sh3 (v10.2.1))]) fun v11 => (H0 (.s0 a0 a1 a2 a3 (v11.2.1) (v11.1)))))))
def l82x2_2 (Cl : Oracle) (n : Nat) (x4 : RowT sh3) (H0 : S82x2_0 → OR) (m : Nat) : S82x2_2 → OR := Nat.rec (fun _ => none) (fun _ ih s => match s with | .s0 a0 a1 a2 a3 a4 a5 a6 => w82x2_2_0 Cl n x4 H0 a0 a1 a2 a3 a4 a5 a6) m
theorem hl82x2_2 (Cl : Oracle) (n : Nat) (x4 : RowT sh3) (m0 : Nat) : ∀ (m : Nat) (s : S82x2_2), h82_2 Cl n [(bx sh3 x4)] m0 m s.st = l82x2_2 Cl n x4 (fun s => h82_0 Cl n [(bx sh3 x4)]  m0 s.st) m s := by
  intro m
  induction m with
  | zero => intro s; kernel_rfl
  | succ m ih =>
    intro s
    cases s with
    | s0 a0 a1 a2 a3 a4 a5 a6 =>
      have h : h82_2 Cl n [(bx sh3 x4)] m0 (m + 1) (s82x2_2_0 a0 a1 a2 a3 a4 a5 a6) = w82x2_2_0 Cl n x4 (fun s => h82_0 Cl n [(bx sh3 x4)]  m0 s.st) a0 a1 a2 a3 a4 a5 a6 := by kernel_rfl
      exact h
def l82x2_1 (Cl : Oracle) (n : Nat) (x4 : RowT sh3) (H0 : S82x2_0 → OR) (m : Nat) : S82x2_1 → OR := Nat.rec (fun _ => none) (fun _ ih s => match s with | .s0 a0 a1 a2 a3 a4 a5 a6 a7 a8 a9 a10 => w82x2_1_0 Cl n x4 ih (l82x2_2 Cl n x4 H0 n) a0 a1 a2 a3 a4 a5 a6 a7 a8 a9 a10) m
theorem hl82x2_1 (Cl : Oracle) (n : Nat) (x4 : RowT sh3) (m0 : Nat) : ∀ (m : Nat) (s : S82x2_1), h82_1 Cl n [(bx sh3 x4)] m0 m s.st = l82x2_1 Cl n x4 (fun s => h82_0 Cl n [(bx sh3 x4)]  m0 s.st) m s := by
  intro m
  induction m with
  | zero => intro s; kernel_rfl
  | succ m ih =>
    intro s
    have e1 : (fun s => h82_1 Cl n [(bx sh3 x4)] m0 m s.st) = l82x2_1 Cl n x4 (fun s => h82_0 Cl n [(bx sh3 x4)]  m0 s.st) m := funext ih
    have e2 : (fun s => h82_2 Cl n [(bx sh3 x4)] m0 n s.st) = l82x2_2 Cl n x4 (fun s => h82_0 Cl n [(bx sh3 x4)]  m0 s.st) n := funext (hl82x2_2 Cl n x4 m0 n)
    cases s with
    | s0 a0 a1 a2 a3 a4 a5 a6 a7 a8 a9 a10 =>
      have h : h82_1 Cl n [(bx sh3 x4)] m0 (m + 1) (s82x2_1_0 a0 a1 a2 a3 a4 a5 a6 a7 a8 a9 a10) = w82x2_1_0 Cl n x4 (fun s => h82_1 Cl n [(bx sh3 x4)] m0 m s.st) (fun s => h82_2 Cl n [(bx sh3 x4)] m0 n s.st) a0 a1 a2 a3 a4 a5 a6 a7 a8 a9 a10 := by kernel_rfl
      rw [e2, e1] at h
      exact h
def l82x2_0 (Cl : Oracle) (n : Nat) (x4 : RowT sh3)  (m : Nat) : S82x2_0 → OR := Nat.rec (fun _ => none) (fun _ ih s => match s with | .s0 a0 a1 a2 a3 a4 a5 => w82x2_0_0 Cl n x4 (l82x2_1 Cl n x4 ih n) a0 a1 a2 a3 a4 a5) m
theorem hl82x2_0 (Cl : Oracle) (n : Nat) (x4 : RowT sh3)  : ∀ (m : Nat) (s : S82x2_0), h82_0 Cl n [(bx sh3 x4)]  m s.st = l82x2_0 Cl n x4  m s := by
  intro m
  induction m with
  | zero => intro s; kernel_rfl
  | succ m ih =>
    intro s
    have e0 : (fun s => h82_0 Cl n [(bx sh3 x4)]  m s.st) = l82x2_0 Cl n x4  m := funext ih
    have e1 : (fun s => h82_1 Cl n [(bx sh3 x4)] m n s.st) = l82x2_1 Cl n x4 (fun s => h82_0 Cl n [(bx sh3 x4)]  m s.st) n := funext (hl82x2_1 Cl n x4 m n)
    cases s with
    | s0 a0 a1 a2 a3 a4 a5 =>
      have h : h82_0 Cl n [(bx sh3 x4)]  (m + 1) (s82x2_0_0 a0 a1 a2 a3 a4 a5) = w82x2_0_0 Cl n x4 (fun s => h82_1 Cl n [(bx sh3 x4)] m n s.st) a0 a1 a2 a3 a4 a5 := by kernel_rfl
      rw [e1, e0] at h
      exact h
def tt82x2 (Cl : Oracle) (n : Nat) (H0 : S82x2_0 → OR) (x0 : Bool) (x1 : RR) (x2 : Bool) (x3 : RR) (x4 : RowT sh3) : OR :=
  (tRes rs14 (Cl 96 [pE] [(bx sh3 x4)]) fun v0 => (H0 (.s0 x0 x1 x2 x3 (v0.2.1) (v0.1))))
def t82x2 (Cl : Oracle) (n : Nat) (x0 : Bool) (x1 : RR) (x2 : Bool) (x3 : RR) (x4 : RowT sh3) : OR := tt82x2 Cl n (l82x2_0 Cl n x4 n) x0 x1 x2 x3 x4
theorem pt82x2 (Cl : Oracle) (n : Nat) (x0 : Bool) (x1 : RR) (x2 : Bool) (x3 : RR) (x4 : RowT sh3) : evBodyA an82 Cl n k82 [pE, (.one (.fn 96 [(.ptr (.e 0) 0 0)] [])), (.one (lC (.im x0) 1 x1)), (.one (lC (.im x2) 1 x3))] [(bx sh3 x4)] = t82x2 Cl n x0 x1 x2 x3 x4 := by
  have h : evBodyA an82 Cl n k82 [pE, (.one (.fn 96 [(.ptr (.e 0) 0 0)] [])), (.one (lC (.im x0) 1 x1)), (.one (lC (.im x2) 1 x3))] [(bx sh3 x4)] = tt82x2 Cl n (fun s => h82_0 Cl n [(bx sh3 x4)] n s.st) x0 x1 x2 x3 x4 := by kernel_rfl
  have e0 : (fun s => h82_0 Cl n [(bx sh3 x4)] n s.st) = l82x2_0 Cl n x4 n := funext (hl82x2_0 Cl n x4 n)
  rw [e0] at h
  exact h
def t96 (Cl : Oracle) (n : Nat) (x0 : RowT sh3) : OR :=
  (tRes rs14 (Cl 82 [pE, (.one (.fn 97 [(.ptr (.e 0) 0 0)] [])), (.one (lC (.im false) 1 [[(.str [42])], [(.str [47])], [(.str [109, 111, 100])]])), (.one (lC (.im false) 1 [[(.int .i64 8)], [(.int .i64 9)], [(.int .i64 10)]]))] [(bx sh3 x0)]) fun v0 => (some ((.one (iC (v0.1))), [(bx sh3 (v0.2.1))])))
theorem pt96 (Cl : Oracle) (n : Nat) (x0 : RowT sh3) : evBodyA an96 Cl n k96 [pE] [(bx sh3 x0)] = t96 Cl n x0 := by kernel_rfl
def s82x3_0_0 (a0 : Bool) (a1 : RR) (a2 : Bool) (a3 : RR) (a4 : RowT sh3) (a5 : Int) : Go.Abs.St := [((.s 0), ⟨pE, 0⟩), ((.s 1), ⟨(.one (.fn 97 [(.ptr (.e 0) 0 0)] [])), 0⟩), ((.s 2), ⟨(.one (lC (.im a0) 1 a1)), 0⟩), ((.s 3), ⟨(.one (lC (.im a2) 1 a3)), 0⟩), ((.r (.e 0)), ⟨(.one (iC 8)), 0⟩), ((.b (.e 0) 0), ⟨(.one (lC (.im a4.1.1) 3 a4.1.2)), 0⟩), ((.b (.e 0) 1), ⟨(.one (iC a4.2.1)), 0⟩), ((.b (.e 0) 2), ⟨(.one (iC a4.2.2.1)), 0⟩), ((.b (.e 0) 3), ⟨(.one (iC a4.2.2.2.1)), 0⟩), ((.b (.e 0) 4), ⟨(.one (sC a4.2.2.2.2.1)), 0⟩), ((.b (.e 0) 5), ⟨(.one (lC a4.2.2.2.2.2.1.1 3 a4.2.2.2.2.2.1.2)), 0⟩), ((.b (.e 0) 6), ⟨(.one (lC a4.2.2.2.2.2.2.1.1 6 a4.2.2.2.2.2.2.1.2)), 0⟩), ((.b (.e 0) 7), ⟨(.one (lC a4.2.2.2.2.2.2.2.1.1 10 a4.2.2.2.2.2.2.2.1.2)), 0⟩), ((.s 9), ⟨(.one (iC a5)), 0⟩)]
def s82x3_1_0 (a0 : Bool) (a1 : RR) (a2 : Bool) (a3 : RR) (a4 : RowT sh3) (a5 : Int) (a6 : Int) (a7 : Bool) (a8 : RR) (a9 : Int) (a10 : Int) : Go.Abs.St := [((.s 0), ⟨pE, 0⟩), ((.s 1), ⟨(.one (.fn 97 [(.ptr (.e 0) 0 0)] [])), 0⟩), ((.s 2), ⟨(.one (lC (.im a0) 1 a1)), 0⟩), ((.s 3), ⟨(.one (lC (.im a2) 1 a3)), 0⟩), ((.r (.e 0)), ⟨(.one (iC 8)), 0⟩), ((.b (.e 0) 0), ⟨(.one (lC (.im a4.1.1) 3 a4.1.2)), 0⟩), ((.b (.e 0) 1), ⟨(.one (iC a4.2.1)), 0⟩), ((.b (.e 0) 2), ⟨(.one (iC a4.2.2.1)), 0⟩), ((.b (.e 0) 3), ⟨(.one (iC a4.2.2.2.1)), 0⟩), ((.b (.e 0) 4), ⟨(.one (sC a4.2.2.2.2.1)), 0⟩), ((.b (.e 0) 5), ⟨(.one (lC a4.2.2.2.2.2.1.1 3 a4.2.2.2.2.2.1.2)), 0⟩), ((.b (.e 0) 6), ⟨(.one (lC a4.2.2.2.2.2.2.1.1 6 a4.2.2.2.2.2.2.1.2)), 0⟩), ((.b (.e 0) 7), ⟨(.one (lC a4.2.2.2.2.2.2.2.1.1 10 a4.2.2.2.2.2.2.2.1.2)), 0⟩), ((.s 9), ⟨(.one (iC a5)), 0⟩), ((.s 10), ⟨(.one (iC a6)), 0⟩), ((.s 21), ⟨(.one (lC (.im a7) 1 a8)), 0⟩), ((.s 22), ⟨(.one (iC a9)), 0⟩), ((.s 23), ⟨(.one (iC a10)), 0⟩)]
def s82x3_2_0 (a0 : Bool) (a1 : RR) (a2 : Bool) (a3 : RR) (a4 : RowT sh3) (a5 : Int) (a6 : Int) : Go.Abs.St := [((.s 0), ⟨pE, 0⟩), ((.s 1), ⟨(.one (.fn 97 [(.ptr (.e 0) 0 0)] [])), 0⟩), ((.s 2), ⟨(.one (lC (.im a0) 1 a1)), 0⟩), ((.s 3), ⟨(.one (lC (.im a2) 1 a3)), 0⟩), ((.r (.e 0)), ⟨(.one (iC 8)), 0⟩), ((.b (.e 0) 0), ⟨(.one (lC (.im a4.1.1) 3 a4.1.2)), 0⟩), ((.b (.e 0) 1), ⟨(.one (iC a4.2.1)), 0⟩), ((.b (.e 0) 2), ⟨(.one (iC a4.2.2.1)), 0⟩), ((.b (.e 0) 3), ⟨(.one (iC a4.2.2.2.1)), 0⟩), ((.b (.e 0) 4), ⟨(.one (sC a4.2.2.2.2.1)), 0⟩), ((.b (.e 0) 5), ⟨(.one (lC a4.2.2.2.2.2.1.1 3 a4.2.2.2.2.2.1.2)), 0⟩), ((.b (.e 0) 6), ⟨(.one (lC a4.2.2.2.2.2.2.1.1 6 a4.2.2.2.2.2.2.1.2)), 0⟩), ((.b (.e 0) 7), ⟨(.one (lC a4.2.2.2.2.2.2.2.1.1 10 a4.2.2.2.2.2.2.2.1.2)), 0⟩), ((.s 9), ⟨(.one (iC a5)), 0⟩), ((.s 10), ⟨(.one (iC a6)), 0⟩)]
inductive S82x3_0 where | s0 (a0 : Bool) (a1 : RR) (a2 : Bool) (a3 : RR) (a4 : RowT sh3) (a5 : Int)
def S82x3_0.st : S82x3_0 → Go.Abs.St | .s0 a0 a1 a2 a3 a4 a5 => s82x3_0_0 a0 a1 a2 a3 a4 a5
inductive S82x3_1 where | s0 (a0 : Bool) (a1 : RR) (a2 : Bool) (a3 : RR) (a4 : RowT sh3) (a5 : Int) (a6 : Int) (a7 : Bool) (a8 : RR) (a9 : Int) (a10 : Int)
def S82x3_1.st : S82x3_1 → Go.Abs.St | .s0 a0 a1 a2 a3 a4 a5 a6 a7 a8 a9 a10 => s82x3_1_0 a0 a1 a2 a3 a4 a5 a6 a7 a8 a9 a10
inductive S82x3_2 where | s0 (a0 : Bool) (a1 : RR) (a2 : Bool) (a3 : RR) (a4 : RowT sh3) (a5 : Int) (a6 : Int)
def S82x3_2.st : S82x3_2 → Go.Abs.St | .s0 a0 a1 a2 a3 a4 a5 a6 => s82x3_2_0 a0 a1 a2 a3 a4 a5 a6
def w82x3_0_0 (Cl : Oracle) (n : Nat) (x4 : RowT sh3) (H1 : S82x3_1 → OR) (a0 : Bool) (a1 : RR) (a2 : Bool) (a3 : RR) (a4 : RowT sh3) (a5 : Int) : OR :=
  (tRes rs3 (Cl 14 [pE] [(bx sh3 a4)]) fun v1 => (bif (!v1.1) then (H1 (.s0 a0 a1 a2 a3 (v1.2.1) a5 (-1) a0 a1 (natI a1.length) 0)) else (some ((.one (iC a5)), [(bx sh3 (v1.2.1))]))))
def w82x3_1_0 (Cl : Oracle) (n : Nat) (x4 : RowT sh3) (H1 : S82x3_1 → OR) (H2 : S82x3_2 → OR) (a0 : Bool) (a1 : RR) (a2 : Bool) (a3 : RR) (a4 : RowT sh3) (a5 : Int) (a6 : Int) (a7 : Bool) (a8 : RR) (a9 : Int) (a10 : Int) : OR :=
  (bif (decide (a10 < a9)) then (qOpt (asI a10) fun o2 => (qOpt (a8[o2]?) fun o3 => (gd (decide (1 ≤ o3.length)) (tRow [.str] (List.take 1 o3) fun v4 => (tRes rs3 (Cl 9 [pE, (.one (sC (v4.1)))] [(bx sh3 a4)]) fun v5 => (bif (v5.1) then (qOpt (asI a10) fun o6 => (qOpt (a3[o6]?) fun o7 => (gd (decide (1 ≤ o7.length)) (tRow sh1 (List.take 1 o7) fun v8 => (H2 (.s0 a0 a1 a2 a3 (v5.2.1) a5 (v8.1))))))) else (H1 (.s0 a0 a1 a2 a3 (v5.2.1) a5 a6 a7 a8 a9 (w64 (a10 + (1 : Int))))))))))) else (H2 (.s0 a0 a1 a2 a3 a4 a5 a6)))
def w82x3_2_0 (Cl : Oracle) (n : Nat) (x4 : RowT sh3) (H0 : S82x3_0 → OR) (a0 : Bool) (a1 : RR) (a2 : Bool) (a3 : RR) (a4 : RowT sh3) (a5 : Int) (a6 : Int) : OR :=
  (bif (decide (a6 < (0 : Int))) then (some ((.one (iC a5)), [(bx sh3 a4)])) else (tRes rs27 (Cl 90 [(.one (iC a6))] []) fun v9 => (tRes rs14 (Cl 97 [pE] [(bx sh3 a4)]) fun v10 => (tRes rs14 (Cl 91 [pE, (.agg [(iC (v9.1.1)), (sC (v9.1.2.1)), (iC (v9.1.2.2.1)), (sC (v9.1.2.2.2.1)), (iC a5), (iC (v10.1))])] [(bx sh3 (v10.2.1))]) fun v11 => (H0 (.s0 a0 a1 a2 a3 (v11.2.1) (v11.1)))))))
def l82x3_2 (Cl : Oracle) (n : Nat) (x4 : RowT sh3) (H0 : S82x3_0 → OR) (m : Nat) : S82x3_2 → OR := Nat.rec (fun _ => none) (fun _ ih s => match s with | .s0 a0 a1 a2 a3 a4 a5 a6 => w82x3_2_0 Cl n x4 H0 a0 a1 a2 a3 a4 a5 a6) m
theorem hl82x3_2 (Cl : Oracle) (n : Nat) (x4 : RowT sh3) (m0 : Nat) : ∀ (m : Nat) (s : S82x3_2), h82_2 Cl n [(bx sh3 x4)] m0 m s.st = l82x3_2 Cl n x4 (fun s => h82_0 Cl n [(bx sh3 x4)]  m0 s.st) m s := by
  intro m
  induction m with
  | zero => intro s; kernel_rfl
  | succ m ih =>
    intro s
    cases s with
    | s0 a0 a1 a2 a3 a4 a5 a6 =>
      have h : h82_2 Cl n [(bx sh3 x4)] m0 (m + 1) (s82x3_2_0 a0 a1 a2 a3 a4 a5 a6) = w82x3_2_0 Cl n x4 (fun s => h82_0 Cl n [(bx sh3 x4)]  m0 s.st) a0 a1 a2 a3 a4 a5 a6 := by kernel_rfl
      exact h
def l82x3_1 (Cl : Oracle) (n : Nat) (x4 : RowT sh3) (H0 : S82x3_0 → OR) (m : Nat) : S82x3_1 → OR := Nat.rec (fun _ => none) (fun _ ih s => match s with | .s0 a0 a1 a2 a3 a4 a5 a6 a7 a8 a9 a10 => w82x3_1_0 Cl n x4 ih (l82x3_2 Cl n x4 H0 n) a0 a1 a2 a3 a4 a5 a6 a7 a8 a9 a10) m
theorem hl82x3_1 (Cl : Oracle) (n : Nat) (x4 : RowT sh3) (m0 : Nat) : ∀ (m : Nat) (s : S82x3_1), h82_1 Cl n [(bx sh3 x4)] m0 m s.st = l82x3_1 Cl n x4 (fun s => h82_0 Cl n [(bx sh3 x4)]  m0 s.st) m s := by
  intro m
  induction m with
  | zero => intro s; kernel_rfl
  | succ m ih =>
    intro s
    have e1 : (fun s => h82_1 Cl n [(bx sh3 x4)] m0 m s.st) = l82x3_1 Cl n x4 (fun s => h82_0 Cl n [(bx sh3 x4)]  m0 s.st) m := funext ih
    have e2 : (fun s => h82_2 Cl n [(bx sh3 x4)] m0 n s.st) = l82x3_2 Cl n x4 (fun s => h82_0 Cl n [(bx sh3 x4)]  m0 s.st) n := funext (hl82x3_2 Cl n x4 m0 n)
    cases s with
    | s0 a0 a1 a2 a3 a4 a5 a6 a7 a8 a9 a10 =>
      have h : h82_1 Cl n [(bx sh3 x4)] m0 (m + 1) (s82x3_1_0 a0 a1 a2 a3 a4 a5 a6 a7 a8 a9 a10) = w82x3_1_0 Cl n x4 (fun s => h82_1 Cl n [(bx sh3 x4)] m0 m s.st) (fun s => h82_2 Cl n [(bx sh3 x4)] m0 n s.st) a0 a1 a2 a3 a4 a5 a6 a7 a8 a9 a10 := by kernel_rfl
      rw [e2, e1] at h
      exact h
def l82x3_0 (Cl : Oracle) (n : Nat) (x4 : RowT sh3)  (m : Nat) : S82x3_0 → OR := Nat.rec (fun _ => none) (fun _ ih s => match s with | .s0 a0 a1 a2 a3 a4 a5 => w82x3_0_0 Cl n x4 (l82x3_1 Cl n x4 ih n) a0 a1 a2 a3 a4 a5) m
theorem hl82x3_0 (Cl : Oracle) (n : Nat) (x4 : RowT sh3)  : ∀ (m : Nat) (s : S82x3_0), h82_0 Cl n [(bx sh3 x4)]  m s.st = l82x3_0 Cl n x4  m s := by
  intro m
  induction m with
  | zero => intro s; kernel_rfl
  | succ m ih =>
    intro s
    have e0 : (fun s => h82_0 Cl n [(bx sh3 x4)]  m s.st) = l82x3_0 Cl n x4  m := funext ih
    have e1 : (fun s => h82_1 Cl n [(bx sh3 x4)] m n s.st) = l82x3_1 Cl n x4 (fun s => h82_0 Cl n [(bx sh3 x4)]  m s.st) n := funext (hl82x3_1 Cl n x4 m n)
    cases s with
    | s0 a0 a1 a2 a3 a4 a5 =>
      have h : h82_0 Cl n [(bx sh3 x4)]  (m + 1) (s82x3_0_0 a0 a1 a2 a3 a4 a5) = w82x3_0_0 Cl n x4 (fun s => h82_1 Cl n [(bx sh3 x4)] m n s.st) a0 a1 a2 a3 a4 a5 := by kernel_rfl
      rw [e1, e0] at h
      exact h
def tt82x3 (Cl : Oracle) (n : Nat) (H0 : S82x3_0 → OR) (x0 : Bool) (x1 : RR) (x2 : Bool) (x3 : RR) (x4 : RowT sh3) : OR :=
  (tRes rs14 (Cl 97 [pE] [(bx sh3 x4)]) fun v0 => (H0 (.s0 x0 x1 x2 x3 (v0.2.1) (v0.1))))
def t82x3 (Cl : Oracle) (n : Nat) (x0 : Bool) (x1 : RR) (x2 : Bool) (x3 : RR) (x4 : RowT sh3) : OR := tt82x3 Cl n (l82x3_0 Cl n x4 n) x0 x1 x2 x3 x4
theorem pt82x3 (Cl : Oracle) (n : Nat) (x0 : Bool) (x1 : RR) (x2 : Bool) (x3 : RR) (x4 : RowT sh3) : evBodyA an82 Cl n k82 [pE, (.one (.fn 97 [(.ptr (.e 0) 0 0)] [])), (.one (lC (.im x0) 1 x1)), (.one (lC (.im x2) 1 x3))] [(bx sh3 x4)] = t82x3 Cl n x0 x1 x2 x3 x4 := by
  have h : evBodyA an82 Cl n k82 [pE, (.one (.fn 97 [(.ptr (.e 0) 0 0)] [])), (.one (lC (.im x0) 1 x1)), (.one (lC (.im x2) 1 x3))] [(bx sh3 x4)] = tt82x3 Cl n (fun s => h82_0 Cl n [(bx sh3 x4)] n s.st) x0 x1 x2 x3 x4 := by kernel_rfl
  have e0 : (fun s => h82_0 Cl n [(bx sh3 x4)] n s.st) = l82x3_0 Cl n x4 n := funext (hl82x3_0 Cl n x4 n)
  rw [e0] at h
  exact h
def t97 (Cl : Oracle) (n : Nat) (x0 : RowT sh3) : OR :=
  (tRes rs3 (Cl 14 [pE] [(bx sh3 x0)]) fun v0 => (bif (v0.1) then (some ((.one (iC (-1))), [(bx sh3 (v0.2.1))])) else (tRes rs3 (Cl 9 [pE, (.one (sC [116, 114, 117, 101]))] [(bx sh3 (v0.2.1))]) fun v1 => (bif (v1.1) then (tRes rs27 (Cl 90 [(.one (iC 2))] []) fun v2 => (tRes rs14 (Cl 91 [pE, (.agg [(iC (v2.1.1)), (sC (v2.1.2.1)), (iC 1), (sC (v2.1.2.2.2.1)), (iC (v2.1.2.2.2.2.1)), (iC (v2.1.2.2.2.2.2.1))])] [(bx sh3 (v1.2.1))]) fun v3 => (some ((.one (iC (v3.1))), [(bx sh3 (v3.2.1))])))) else (tRes rs3 (Cl 9 [pE, (.one (sC [102, 97, 108, 115, 101]))] [(bx sh3 (v1.2.1))]) fun v4 => (bif (v4.1) then (tRes rs27 (Cl 90 [(.one (iC 2))] []) fun v5 => (tRes rs14 (Cl 91 [pE, (.agg [(iC (v5.1.1)), (sC (v5.1.2.1)), (iC (v5.1.2.2.1)), (sC (v5.1.2.2.2.1)), (iC (v5.1.2.2.2.2.1)), (iC (v5.1.2.2.2.2.2.1))])] [(bx sh3 (v4.2.1))]) fun v6 => (some ((.one (iC (v6.1))), [(bx sh3 (v6.2.1))])))) else (tRes rs3 (Cl 9 [pE, (.one (sC [101, 109, 112, 116, 121]))] [(bx sh3 (v4.2.1))]) fun v7 => (bif (v7.1) then (tRes rs27 (Cl 90 [(.one (iC 4))] []) fun v8 => (tRes rs14 (Cl 91 [pE, (.agg [(iC (v8.1.1)), (sC (v8.1.2.1)), (iC (v8.1.2.2.1)), (sC (v8.1.2.2.2.1)), (iC (v8.1.2.2.2.2.1)), (iC (v8.1.2.2.2.2.2.1))])] [(bx sh3 (v7.2.1))]) fun v9 => (some ((.one (iC (v9.1))), [(bx sh3 (v9.2.1))])))) else (tRes rs3 (Cl 9 [pE, (.one (sC [117, 110, 105, 116]))] [(bx sh3 (v7.2.1))]) fun v10 => (bif (v10.1) then (tRes rs27 (Cl 90 [(.one (iC 5))] []) fun v11 => (tRes rs14 (Cl 91 [pE, (.agg [(iC (v11.1.1)), (sC (v11.1.2.1)), (iC (v11.1.2.2.1)), (sC (v11.1.2.2.2.1)), (iC (v11.1.2.2.2.2.1)), (iC (v11.1.2.2.2.2.2.1))])] [(bx sh3 (v10.2.1))]) fun v12 => (some ((.one (iC (v12.1))), [(bx sh3 (v12.2.1))])))) else (tRes rs3 (Cl 9 [pE, (.one (sC [108, 101, 110]))] [(bx sh3 (v10.2.1))]) fun v13 => (bif (v13.1) then (tRes rs14 (Cl 98 [pE, (.one (iC 16))] [(bx sh3 (v13.2.1))]) fun v14 => (some ((.one (iC (v14.1))), [(bx sh3 (v14.2.1))]))) else (tRes rs3 (Cl 9 [pE, (.one (sC [97, 116]))] [(bx sh3 (v13.2.1))]) fun v15 => (bif (v15.1) then (tRes rs14 (Cl 98 [pE, (.one (iC 17))] [(bx sh3 (v15.2.1))]) fun v16 => (some ((.one (iC (v16.1))), [(bx sh3 (v16.2.1))]))) else (tRes rs3 (Cl 9 [pE, (.one (sC [112, 117, 115, 104]))] [(bx sh3 (v15.2.1))]) fun v17 => (bif (v17.1) then (tRes rs14 (Cl 98 [pE, (.one (iC 18))] [(bx sh3 (v17.2.1))]) fun v18 => (some ((.one (iC (v18.1))), [(bx sh3 (v18.2.1))]))) else (tRes rs3 (Cl 9 [pE, (.one (sC [106, 111, 105, 110]))] [(bx sh3 (v17.2.1))]) fun v19 => (bif (v19.1) then (tRes rs14 (Cl 98 [pE, (.one (iC 19))] [(bx sh3 (v19.2.1))]) fun v20 => (some ((.one (iC (v20.1))), [(bx sh3 (v20.2.1))]))) else (tRes rs3 (Cl 9 [pE, (.one (sC [40]))] [(bx sh3 (v19.2.1))]) fun v21 => (bif (v21.1) then (tRes rs14 (Cl 69 [pE] [(bx sh3 (v21.2.1))]) fun v22 => (tRes rs7 (Cl 29 [pE, (.one (sC [41]))] [(bx sh3 (v22.2.1))]) fun v23 => (some ((.one (iC (v22.1))), [(bx sh3 (v23.2.1))])))) else (tRes rs3 (Cl 46 [pE] [(bx sh3 (v21.2.1))]) fun v24 => (bif (v24.1) then (tRes rs27 (Cl 90 [(.one (iC 0))] []) fun v25 => (tRes rs13 (Cl 28 [pE] [(bx sh3 (v24.2.1))]) fun v26 => (tRes rs14 (Cl 91 [pE, (.agg [(iC (v25.1.1)), (sC (v26.1)), (iC (v25.1.2.2.1)), (sC (v25.1.2.2.2.1)), (iC (v25.1.2.2.2.2.1)), (iC (v25.1.2.2.2.2.2.1))])] [(bx sh3 (v26.2.1))]) fun v27 => (some ((.one (iC (v27.1))), [(bx sh3 (v27.2.1))]))))) else (tRes rs3 (Cl 8 [pE] [(bx sh3 (v24.2.1))]) fun v28 => (bif (v28.1) then (qOpt (asI v28.2.1.2.1) fun o29 => (rA sh1 0 1 v28.2.1.1.2 (o29) fun v31 => (bif (v31.1 == (1 : Int)) then (tRes rs27 (Cl 90 [(.one (iC 1))] []) fun v32 => (qOpt (asI v28.2.1.2.1) fun o33 => (rA [.str] 1 1 v28.2.1.1.2 (o33) fun v35 => (tRes rs19 (Cl 42 [(.one (sC (v35.1))), (.one (iC 10)), (.one (iC 64))] []) fun v36 => (bif (v36.1.2.1) then (tRes rs14 (Cl 91 [pE, (.agg [(iC (v32.1.1)), (sC (v32.1.2.1)), (iC (v36.1.1)), (sC (v32.1.2.2.2.1)), (iC (v32.1.2.2.2.2.1)), (iC (v32.1.2.2.2.2.2.1))])] [(bx sh3 (((v28.2.1.1.1), (v28.2.1.1.2)), (w64 (v28.2.1.2.1 + (1 : Int))), (v28.2.1.2.2.1), (v28.2.1.2.2.2.1), (v28.2.1.2.2.2.2.1), ((v28.2.1.2.2.2.2.2.1.1), (v28.2.1.2.2.2.2.2.1.2)), ((v28.2.1.2.2.2.2.2.2.1.1), (v28.2.1.2.2.2.2.2.2.1.2)), ((v28.2.1.2.2.2.2.2.2.2.1.1), (v28.2.1.2.2.2.2.2.2.2.1.2)), ()))]) fun v37 => (some ((.one (iC (v37.1))), [(bx sh3 (v37.2.1))]))) else (tRes rs14 (Cl 91 [pE, (.agg [(iC (v32.1.1)), (sC (v32.1.2.1)), (iC (v36.1.1)), (sC (v32.1.2.2.2.1)), (iC (v32.1.2.2.2.2.1)), (iC (v32.1.2.2.2.2.2.1))])] [(bx sh3 (((v28.2.1.1.1), (v28.2.1.1.2)), (w64 (v28.2.1.2.1 + (1 : Int))), (v28.2.1.2.2.1), (v28.2.1.2.2.2.1), (v28.2.1.2.2.2.2.1), ((v28.2.1.2.2.2.2.2.1.1), (v28.2.1.2.2.2.2.2.1.2)), ((v28.2.1.2.2.2.2.2.2.1.1), (v28.2.1.2.2.2.2.2.2.1.2)), ((v28.2.1.2.2.2.2.2.2.2.1.1), (v28.2.1.2.2.2.2.2.2.2.1.2)), ()))]) fun v38 => (some ((.one (iC (v38.1))), [(bx sh3 (v38.2.1))])))))))) else (tRes rs3 (Cl 8 [pE] [(bx sh3 (v28.2.1))]) fun v39 => (bif (v39.1) then (qOpt (asI v39.2.1.2.1) fun o40 => (rA sh1 0 1 v39.2.1.1.2 (o40) fun v42 => (bif (v42.1 == (2 : Int)) then (tRes rs27 (Cl 90 [(.one (iC 3))] []) fun v43 => (qOpt (asI v39.2.1.2.1) fun o44 => (rA [.str] 1 1 v39.2.1.1.2 (o44) fun v46 => (tRes rs14 (Cl 91 [pE, (.agg [(iC (v43.1.1)), (sC (v43.1.2.1)), (iC (v43.1.2.2.1)), (sC (v46.1)), (iC (v43.1.2.2.2.2.1)), (iC (v43.1.2.2.2.2.2.1))])] [(bx sh3 (((v39.2.1.1.1), (v39.2.1.1.2)), (w64 (v39.2.1.2.1 + (1 : Int))), (v39.2.1.2.2.1), (v39.2.1.2.2.2.1), (v39.2.1.2.2.2.2.1), ((v39.2.1.2.2.2.2.2.1.1), (v39.2.1.2.2.2.2.2.1.2)), ((v39.2.1.2.2.2.2.2.2.1.1), (v39.2.1.2.2.2.2.2.2.1.2)), ((v39.2.1.2.2.2.2.2.2.2.1.1), (v39.2.1.2.2.2.2.2.2.2.1.2)), ()))]) fun v47 => (some ((.one (iC (v47.1))), [(bx sh3 (v47.2.1))])))))) else (tRes rs7 (Cl 13 [pE] [(bx sh3 (v39.2.1))]) fun v48 => (some ((.one (iC (-1))), [(bx sh3 (v48.2.1))])))))) else (tRes rs7 (Cl 13 [pE] [(bx sh3 (v39.2.1))]) fun v49 => (some ((.one (iC (-1))), [(bx sh3 (v49.2.1))])))))))) else (tRes rs3 (Cl 8 [pE] [(bx sh3 (v28.2.1))]) fun v50 => (bif (v50.1) then (qOpt (asI v50.2.1.2.1) fun o51 => (rA sh1 0 1 v50.2.1.1.2 (o51) fun v53 => (bif (v53.1 == (2 : Int)) then (tRes rs27 (Cl 90 [(.one (iC 3))] []) fun v54 => (qOpt (asI v50.2.1.2.1) fun o55 => (rA [.str] 1 1 v50.2.1.1.2 (o55) fun v57 => (tRes rs14 (Cl 91 [pE, (.agg [(iC (v54.1.1)), (sC (v54.1.2.1)), (iC (v54.1.2.2.1)), (sC (v57.1)), (iC (v54.1.2.2.2.2.1)), (iC (v54.1.2.2.2.2.2.1))])] [(bx sh3 (((v50.2.1.1.1), (v50.2.1.1.2)), (w64 (v50.2.1.2.1 + (1 : Int))), (v50.2.1.2.2.1), (v50.2.1.2.2.2.1), (v50.2.1.2.2.2.2.1), ((v50.2.1.2.2.2.2.2.1.1), (v50.2.1.2.2.2.2.2.1.2)), ((v50.2.1.2.2.2.2.2.2.1.1), (v50.2.1.2.2.2.2.2.2.1.2)), ((v50.2.1.2.2.2.2.2.2.2.1.1), (v50.2.1.2.2.2.2.2.2.2.1.2)), ()))]) fun v58 => (some ((.one (iC (v58.1))), [(bx sh3 (v58.2.1))])))))) else (tRes rs7 (Cl 13 [pE] [(bx sh3 (v50.2.1))]) fun v59 => (some ((.one (iC (-1))), [(bx sh3 (v59.2.1))])))))) else (tRes rs7 (Cl 13 [pE] [(bx sh3 (v50.2.1))]) fun v60 => (some ((.one (iC (-1))), [(bx sh3 (v60.2.1))])))))))))))))))))))))))))))))
theorem pt97 (Cl : Oracle) (n : Nat) (x0 : RowT sh3) : evBodyA an97 Cl n k97 [pE] [(bx sh3 x0)] = t97 Cl n x0 := by kernel_rfl
def s98_0_0 (a0 : RowT sh3) (a1 : RowT sh25) : Go.Abs.St := [((.s 0), ⟨pE, 0⟩), ((.r (.e 0)), ⟨(.one (iC 8)), 0⟩), ((.b (.e 0) 0), ⟨(.one (lC (.im a0.1.1) 3 a0.1.2)), 0⟩), ((.b (.e 0) 1), ⟨(.one (iC a0.2.1)), 0⟩), ((.b (.e 0) 2), ⟨(.one (iC a0.2.2.1)), 0⟩), ((.b (.e 0) 3), ⟨(.one (iC a0.2.2.2.1)), 0⟩), ((.b (.e 0) 4), ⟨(.one (sC a0.2.2.2.2.1)), 0⟩), ((.b (.e 0) 5), ⟨(.one (lC a0.2.2.2.2.2.1.1 3 a0.2.2.2.2.2.1.2)), 0⟩), ((.b (.e 0) 6), ⟨(.one (lC a0.2.2.2.2.2.2.1.1 6 a0.2.2.2.2.2.2.1.2)), 0⟩), ((.b (.e 0) 7), ⟨(.one (lC a0.2.2.2.2.2.2.2.1.1 10 a0.2.2.2.2.2.2.2.1.2)), 0⟩), ((.r (.l 5)), ⟨(.one (iC 6)), 1⟩), ((.b (.l 5) 0), ⟨(.one (iC a1.1)), 0⟩), ((.b (.l 5) 1), ⟨(.one (sC a1.2.1)), 0⟩), ((.b (.l 5) 2), ⟨(.one (iC a1.2.2.1)), 0⟩), ((.b (.l 5) 3), ⟨(.one (sC a1.2.2.2.1)), 0⟩), ((.b (.l 5) 4), ⟨(.one (iC a1.2.2.2.2.1)), 0⟩), ((.b (.l 5) 5), ⟨(.one (iC a1.2.2.2.2.2.1)), 0⟩), ((.s 5), ⟨(.one (.ptr (.l 5) 1 0)), 0⟩)]
inductive S98_0 where | s0 (a0 : RowT sh3) (a1 : RowT sh25)
def S98_0.st : S98_0 → Go.Abs.St | .s0 a0 a1 => s98_0_0 a0 a1
def w98_0_0 (Cl : Oracle) (n : Nat) (x1 : RowT sh3)  (a0 : RowT sh3) (a1 : RowT sh25) : OR :=
  (tRes rs7 (Cl 29 [pE, (.one (sC [41]))] [(bx sh3 a0)]) fun v5 => (tRes rs14 (Cl 91 [pE, (.agg [(iC (a1.1)), (sC (a1.2.1)), (iC (a1.2.2.1)), (sC (a1.2.2.2.1)), (iC (a1.2.2.2.2.1)), (iC (a1.2.2.2.2.2.1))])] [(bx sh3 (v5.2.1))]) fun v6 => (some ((.one (iC (v6.1))), [(bx sh3 (v6.2.1))]))))
def l98_0 (Cl : Oracle) (n : Nat) (x1 : RowT sh3)  (m : Nat) : S98_0 → OR := Nat.rec (fun _ => none) (fun _ ih s => match s with | .s0 a0 a1 => w98_0_0 Cl n x1  a0 a1) m
theorem hl98_0 (Cl : Oracle) (n : Nat) (x1 : RowT sh3)  : ∀ (m : Nat) (s : S98_0), h98_0 Cl n [(bx sh3 x1)]  m s.st = l98_0 Cl n x1  m s := by
  intro m
  induction m with
  | zero => intro s; kernel_rfl
  | succ m ih =>
    intro s
    cases s with
    | s0 a0 a1 =>
      have h : h98_0 Cl n [(bx sh3 x1)]  (m + 1) (s98_0_0 a0 a1) = w98_0_0 Cl n x1  a0 a1 := by kernel_rfl
      exact h
def tt98 (Cl : Oracle) (n : Nat) (H0 : S98_0 → OR) (x0 : Int) (x1 : RowT sh3) : OR :=
  (tRes rs27 (Cl 90 [(.one (iC x0))] []) fun v0 => (tRes rs7 (Cl 29 [pE, (.one (sC [40]))] [(bx sh3 x1)]) fun v1 => (tRes rs14 (Cl 69 [pE] [(bx sh3 (v1.2.1))]) fun v2 => (bif (x0 != (16 : Int)) then (tRes rs7 (Cl 29 [pE, (.one (sC [44]))] [(bx sh3 (v2.2.1))]) fun v3 => (tRes rs14 (Cl 69 [pE] [(bx sh3 (v3.2.1))]) fun v4 => (H0 (.s0 (v4.2.1) ((v0.1.1), (v0.1.2.1), (v0.1.2.2.1), (v0.1.2.2.2.1), (v2.1), (v4.1), ()))))) else (H0 (.s0 (v2.2.1) ((v0.1.1), (v0.1.2.1), (v0.1.2.2.1), (v0.1.2.2.2.1), (v2.1), (v0.1.2.2.2.2.2.1), ())))))))
def t98 (Cl : Oracle) (n : Nat) (x0 : Int) (x1 : RowT sh3) : OR := tt98 Cl n (l98_0 Cl n x1 n) x0 x1
theorem pt98 (Cl : Oracle) (n : Nat) (x0 : Int) (x1 : RowT sh3) : evBodyA an98 Cl n k98 [pE, (.one (iC x0))] [(bx sh3 x1)] = t98 Cl n x0 x1 := by
  have h : evBodyA an98 Cl n k98 [pE, (.one (iC x0))] [(bx sh3 x1)] = tt98 Cl n (fun s => h98_0 Cl n [(bx sh3 x1)] n s.st) x0 x1 := by kernel_rfl
  have e0 : (fun s => h98_0 Cl n [(bx sh3 x1)] n s.st) = l98_0 Cl n x1 n := funext (hl98_0 Cl n x1 n)
  rw [e0] at h
  exact h
end Go.Proofs.YtgokmelgnmejlaaDoor
