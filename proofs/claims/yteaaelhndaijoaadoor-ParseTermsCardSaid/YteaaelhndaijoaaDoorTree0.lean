/- The functions that the law reaches as the evaluator takes them, and what they come to: printed by program. -/
import Derived.Test.YteaaelhndaijoaaDoorCode
set_option maxRecDepth 100000
set_option maxHeartbeats 40000000
set_option linter.unusedVariables false
namespace Go.Proofs.YteaaelhndaijoaaDoor
open Go Go.Abs
abbrev RR := List (List D)
abbrev BB := List UInt8
abbrev iC (n : Int) : C := .d (.int .i64 n)
abbrev bC (b : Bool) : C := .d (.bool b)
abbrev sC (s : List UInt8) : C := .d (.str s)
abbrev lC (t : Tag) (z : Nat) (r : List (List D)) : C := .d (.sl t z r)
abbrev pE : V := .one (.ptr (.e 0) 0 0)
abbrev w64 (n : Int) : Int := IntKind.i64.wrap n
abbrev w8 (n : Int) : Int := IntKind.u8.wrap n
abbrev OR := Option (V × List (List C))
abbrev rT : OR := some (.one (.d (.bool true)), [])
abbrev rF : OR := some (.one (.d (.bool false)), [])
abbrev sh0 : List DS := [.tg 3, .tg 2, .tg 4]
abbrev sh1 : List DS := [.im 3, .im 2, .im 4]
abbrev sh2 : List DS := [.str, .im 3, .im 6, .im 10]
abbrev sh3 : List DS := [.int .i64]
abbrev sh4 : List DS := [.fnc 8 [(0, 0), (1, 0), (2, 0)]]
abbrev sh5 : List DS := [.bld 71, .tg 1]
abbrev sh6 : List DS := [.bld 71, .dead]
abbrev sh7 : List DS := [.im 3, .int .i64, .int .i64, .int .i64, .str, .tg 3, .tg 6, .tg 10]
abbrev sh8 : List DS := [.str, .im 1, .im 3]
abbrev sh9 : List DS := [.str, .im 3]
abbrev sh10 : List DS := [.int .i64, .str, .int .i64, .str, .int .i64, .int .i64]
abbrev sh11 : List DS := [.int .i64, .str, .int .i64]
abbrev sh12 : List DS := [.str, .tg 3, .tg 6, .tg 10]
abbrev sh13 : List DS := [.str, .int .i64, .str]
abbrev sh14 : List DS := [.int .i64, .str]
abbrev sh15 : List DS := [.int .i64, .str, .str, .str, .str, .int .i64, .im 1, .im 3, .im 3, .int .i64]
abbrev sh16 : List DS := [.str, .str, .int .i64]
abbrev rs0 : RS := (.val (.one (.str)) [])
abbrev rs1 : RS := (.tup [(.agg sh1), (.one (.int .i64)), (.one (.int .i64))] [])
abbrev rs2 : RS := (.val (.one (.bool)) [])
abbrev rs3 : RS := (.val (.one (.bool)) [[.tg 6], [.tg 1], sh4])
abbrev rs4 : RS := (.tup [] [sh5])
abbrev rs5 : RS := (.val (.one (.str)) [sh6])
abbrev rs6 : RS := (.val (.one (.bool)) [sh7])
abbrev rs7 : RS := (.val (.agg sh8) [sh7])
abbrev rs8 : RS := (.val (.agg sh9) [sh7])
abbrev rs9 : RS := (.val (.agg sh2) [sh7])
abbrev rs10 : RS := (.tup [] [sh7])
abbrev rs11 : RS := (.tup [(.one (.im 3)), (.one (.int .i64)), (.one (.int .i64))] [])
abbrev rs12 : RS := (.val (.one (.int .i64)) [])
abbrev rs13 : RS := (.tup [(.one (.int .i64)), .ifc] [sh5])
abbrev rs14 : RS := (.tup [(.one (.str)), (.one (.int .i64)), (.one (.bool))] [])
abbrev rs15 : RS := (.val (.one (.str)) [sh7])
abbrev rs16 : RS := (.val (.agg sh14) [sh7])
abbrev rs17 : RS := (.val (.one (.int .i64)) [sh7])
abbrev rs18 : RS := (.tup [(.one (.int .i64)), .ifc] [])
abbrev rs19 : RS := (.val (.one (.int .u8)) [[.str]])
abbrev rs20 : RS := (.val (.one (.int .u8)) [])
abbrev rs21 : RS := (.val (.one (.bool)) [sh7, sh15])
abbrev rs22 : RS := (.tup [] [sh7, sh15])
abbrev rs23 : RS := (.val (.one (.im 1)) [sh7])
abbrev rs24 : RS := (.val (.one (.im 3)) [sh7])
abbrev rs25 : RS := (.val (.agg sh16) [sh7])
abbrev rs26 : RS := (.val (.agg sh10) [])
def sq8__0_0 (a0 : Bool) (a1 : RR) (a2 : Int) (a3 : RowT sh0) : Go.Abs.St := [((.s 0), ⟨(.one (lC (.im a0) 6 a1)), 0⟩), ((.s 1), ⟨(.one (iC a2)), 0⟩), ((.r (.l 5)), ⟨(.one (iC 3)), 1⟩), ((.b (.l 5) 0), ⟨(.one (lC a3.1.1 3 a3.1.2)), 0⟩), ((.b (.l 5) 1), ⟨(.one (lC a3.2.1.1 2 a3.2.1.2)), 0⟩), ((.b (.l 5) 2), ⟨(.one (lC a3.2.2.1.1 4 a3.2.2.1.2)), 0⟩), ((.s 5), ⟨(.one (.ptr (.l 5) 1 0)), 0⟩)]
def sq8__1_0 (a0 : Bool) (a1 : RR) (a2 : Int) : Go.Abs.St := [((.s 0), ⟨(.one (lC (.im a0) 6 a1)), 0⟩), ((.s 1), ⟨(.one (iC a2)), 0⟩)]
inductive Sq8__0 where | s0 (a0 : Bool) (a1 : RR) (a2 : Int) (a3 : RowT sh0)
def Sq8__0.st : Sq8__0 → Go.Abs.St | .s0 a0 a1 a2 a3 => sq8__0_0 a0 a1 a2 a3
inductive Sq8__1 where | s0 (a0 : Bool) (a1 : RR) (a2 : Int)
def Sq8__1.st : Sq8__1 → Go.Abs.St | .s0 a0 a1 a2 => sq8__1_0 a0 a1 a2
def wq8__0_0 (Cl : Oracle) (n : Nat) (a0 : Bool) (a1 : RR) (a2 : Int) (a3 : RowT sh0) : OR :=
 (tagI (a3.2.2.1.1) (fun b6 => (qOpt (a3.2.2.1.2[Int.toNat (0 : Int)]?) fun o7 => (gd (decide (4 ≤ o7.length)) (tRow sh2 (List.take 4 o7) fun v8 => (rA sh3 5 1 v8.2.2.2.1.2 (Int.toNat (0 : Int)) fun v10 => (tRes rs2 (Cl 5 [(.one (lC (.im (v8.2.2.1.1)) 6 (v8.2.2.1.2))), (.one (iC (v10.1)))] []) fun v11 => (bif (v11.1) then (tRes rs0 (Cl 7 [(.one (lC (.im (v8.2.2.1.1)) 6 (v8.2.2.1.2))), (.one (iC (v10.1)))] []) fun v12 => (tRes rs0 (Cl 7 [(.one (lC (.im a0) 6 a1)), (.one (iC a2))] []) fun v13 => (bif (v12.1 == v13.1) then (some ((.one (bC (v10.1 == w64 (natI v8.2.2.1.2.length - (1 : Int))))), [])) else rF))) else rF))))))) (gd (decide (Int.toNat (0 : Int) < a3.2.2.1.2.length)) (qOpt (a3.2.2.1.2[0 + Int.toNat (0 : Int)]?) fun o14 => (gd (decide (0 + 4 ≤ o14.length)) (tRow sh2 (List.take 4 (List.drop 0 o14)) fun v15 => (rA sh3 5 1 v15.2.2.2.1.2 (Int.toNat (0 : Int)) fun v17 => (tRes rs2 (Cl 5 [(.one (lC (.im (v15.2.2.1.1)) 6 (v15.2.2.1.2))), (.one (iC (v17.1)))] []) fun v18 => (bif (v18.1) then (tRes rs0 (Cl 7 [(.one (lC (.im (v15.2.2.1.1)) 6 (v15.2.2.1.2))), (.one (iC (v17.1)))] []) fun v19 => (tRes rs0 (Cl 7 [(.one (lC (.im a0) 6 a1)), (.one (iC a2))] []) fun v20 => (bif (v19.1 == v20.1) then (some ((.one (bC (v17.1 == w64 (natI v15.2.2.1.2.length - (1 : Int))))), [])) else rF))) else rF))))))))
def wq8__1_0 (Cl : Oracle) (n : Nat) (H0 : Sq8__0 → OR) (a0 : Bool) (a1 : RR) (a2 : Int) : OR :=
 (tRes rs0 (Cl 7 [(.one (lC (.im a0) 6 a1)), (.one (iC a2))] []) fun v2 => (g63 (20 + List.length v2.1) (g63 (([112, 114, 111, 99, 32, 109, 97, 105, 110, 40, 41, 32, 123, 32, 112, 114, 105, 110, 116, 32] ++ v2.1).length + 8) (tRes rs1 (Cl 6 [(.one (sC ([112, 114, 111, 99, 32, 109, 97, 105, 110, 40, 41, 32, 123, 32, 112, 114, 105, 110, 116, 32] ++ v2.1 ++ [59, 32, 115, 116, 111, 112, 32, 125])))] []) fun v3 => (bif (v3.1.2.2.1 != (0 : Int)) then rF else (bif (natI v3.1.1.2.2.1.2.length != (1 : Int)) then rF else (rA [.im 10] 3 1 v3.1.1.2.2.1.2 (Int.toNat (0 : Int)) fun v5 => (bif (natI v5.1.2.length != (2 : Int)) then rF else (H0 (.s0 a0 a1 a2 (((.im (v3.1.1.1.1)), (v3.1.1.1.2)), ((.im (v3.1.1.2.1.1)), (v3.1.1.2.1.2)), ((.im (v3.1.1.2.2.1.1)), (v3.1.1.2.2.1.2)), ())))))))))))
def lq8__0 (Cl : Oracle) (n : Nat) (m : Nat) : Sq8__0 → OR := Nat.rec (fun _ => none) (fun _ ih s => match s with | .s0 a0 a1 a2 a3 => wq8__0_0 Cl n a0 a1 a2 a3) m
theorem hlq8__0 (Cl : Oracle) (n : Nat) : ∀ (m : Nat) (s : Sq8__0), h3_0 Cl n [] m s.st = lq8__0 Cl n m s := by
 intro m
 induction m with
 | zero => intro s; kernel_rfl
 | succ m ih =>
  intro s
  cases s with
  | s0 a0 a1 a2 a3 =>
   have h : h3_0 Cl n [] (m + 1) (sq8__0_0 a0 a1 a2 a3) = wq8__0_0 Cl n a0 a1 a2 a3 := by kernel_rfl
   exact h
def lq8__1 (Cl : Oracle) (n : Nat) (m : Nat) : Sq8__1 → OR := Nat.rec (fun _ => none) (fun _ ih s => match s with | .s0 a0 a1 a2 => wq8__1_0 Cl n (lq8__0 Cl n n) a0 a1 a2) m
theorem hlq8__1 (Cl : Oracle) (n : Nat) : ∀ (m : Nat) (s : Sq8__1), h3_1 Cl n [] m s.st = lq8__1 Cl n m s := by
 intro m
 induction m with
 | zero => intro s; kernel_rfl
 | succ m ih =>
  intro s
  have e0 : (fun s => h3_0 Cl n [] n s.st) = lq8__0 Cl n n := funext (hlq8__0 Cl n n)
  cases s with
  | s0 a0 a1 a2 =>
   have h : h3_1 Cl n [] (m + 1) (sq8__1_0 a0 a1 a2) = wq8__1_0 Cl n (fun s => h3_0 Cl n [] n s.st) a0 a1 a2 := by kernel_rfl
   rw [e0] at h
   exact h
def ttq8_ (Cl : Oracle) (n : Nat) (H1 : Sq8__1 → OR) (x0 : Bool) (x1 : RR) (x2 : Int) : OR :=
 (tRes rs2 (Cl 4 [] []) fun v0 => (bif (!v0.1) then rF else (bif (decide (natI x1.length > (100 : Int))) then rT else (tRes rs2 (Cl 5 [(.one (lC (.im x0) 6 x1)), (.one (iC x2))] []) fun v1 => (bif (!v1.1) then rT else (H1 (.s0 x0 x1 x2)))))))
def tq8_ (Cl : Oracle) (n : Nat) (x0 : Bool) (x1 : RR) (x2 : Int) : OR := ttq8_ Cl n (lq8__1 Cl n n) x0 x1 x2
theorem ptq8_ (Cl : Oracle) (n : Nat) (x0 : Bool) (x1 : RR) (x2 : Int) : evBodyA an3 Cl n k3 [(.one (lC (.im x0) 6 x1)), (.one (iC x2))] [] = tq8_ Cl n x0 x1 x2 := by
 have h : evBodyA an3 Cl n k3 [(.one (lC (.im x0) 6 x1)), (.one (iC x2))] [] = ttq8_ Cl n (fun s => h3_1 Cl n [] n s.st) x0 x1 x2 := by kernel_rfl
 have e1 : (fun s => h3_1 Cl n [] n s.st) = lq8__1 Cl n n := funext (hlq8__1 Cl n n)
 rw [e1] at h
 exact h
def tq1i_ (Cl : Oracle) (n : Nat) : OR :=
 (tRes rs1 (Cl 6 [(.one (sC [112, 114, 111, 99, 32, 109, 97, 105, 110, 40, 41, 32, 123, 32, 115, 116, 111, 112, 32, 125]))] []) fun v0 => (tRes rs1 (Cl 6 [(.one (sC [112, 114, 111, 99, 32, 109, 97, 105, 110, 40, 32, 123, 32, 115, 116, 111, 112, 32, 125]))] []) fun v1 => (bif (v0.1.2.2.1 == (0 : Int)) then (bif (v0.1.2.1 == (0 : Int)) then (bif (natI v0.1.1.2.2.1.2.length == (1 : Int)) then (rA [.str] 0 1 v0.1.1.2.2.1.2 (Int.toNat (0 : Int)) fun v3 => (bif (v3.1 == [109, 97, 105, 110]) then (rA [.im 10] 3 1 v0.1.1.2.2.1.2 (Int.toNat (0 : Int)) fun v5 => (bif (natI v5.1.2.length == (1 : Int)) then (rA [.im 10] 3 1 v0.1.1.2.2.1.2 (Int.toNat (0 : Int)) fun v7 => (rA sh3 0 1 v7.1.2 (Int.toNat (0 : Int)) fun v9 => (bif (v9.1 == (0 : Int)) then (bif (v1.1.2.2.1 == (1701 : Int)) then (some ((.one (bC (v1.1.2.1 == (11 : Int)))), [])) else rF) else rF))) else rF)) else rF)) else rF) else rF) else rF)))
theorem ptq1i_ (Cl : Oracle) (n : Nat) : evBodyA an4 Cl n k4 [] [] = tq1i_ Cl n := by kernel_rfl
def sql__0_0 (a0 : Int) (a1 : RowT [.tg 6]) : Go.Abs.St := [((.s 1), ⟨(.one (iC a0)), 0⟩), ((.r (.l 2)), ⟨(.one (iC 1)), 1⟩), ((.b (.l 2) 0), ⟨(.one (lC a1.1.1 6 a1.1.2)), 0⟩), ((.s 2), ⟨(.one (.ptr (.l 2) 1 0)), 0⟩)]
inductive Sql__0 where | s0 (a0 : Int) (a1 : RowT [.tg 6])
def Sql__0.st : Sql__0 → Go.Abs.St | .s0 a0 a1 => sql__0_0 a0 a1
def wql__0_0 (Cl : Oracle) (n : Nat) (a0 : Int) (a1 : RowT [.tg 6]) : OR :=
 (tagI (a1.1.1) (fun b0 => (gd (decide (a1.1.2.length ≤ a1.1.2.length) && decide (a1.1.2.length * 2 ≤ 140737488355328) && decide (a1.1.2.length ≤ 9223372036854775807) && true && true) (tRes rs3 (Cl 8 [(.one (iC a0)), (.one (iC 1)), pE, (.one (.ptr (.e 1) 0 0)), (.one (.ptr (.e 2) 0 0))] [(bx [.tg 6] (((.im b0), (a1.1.2)), ())), (bx [.tg 1] ((.own, (List.replicate a1.1.2.length [D.bool false])), ())), (bx sh4 ((), ()))]) fun v1 => (some ((.one (bC (v1.1))), []))))) (gd (decide (a1.1.2.length ≤ a1.1.2.length) && decide (a1.1.2.length * 2 ≤ 140737488355328) && decide (a1.1.2.length ≤ 9223372036854775807) && true && true) (tRes rs3 (Cl 8 [(.one (iC a0)), (.one (iC 1)), pE, (.one (.ptr (.e 1) 0 0)), (.one (.ptr (.e 2) 0 0))] [(bx [.tg 6] ((.own, (a1.1.2)), ())), (bx [.tg 1] ((.own, (List.replicate a1.1.2.length [D.bool false])), ())), (bx sh4 ((), ()))]) fun v2 => (some ((.one (bC (v2.1))), [])))))
def lql__0 (Cl : Oracle) (n : Nat) (m : Nat) : Sql__0 → OR := Nat.rec (fun _ => none) (fun _ ih s => match s with | .s0 a0 a1 => wql__0_0 Cl n a0 a1) m
theorem hlql__0 (Cl : Oracle) (n : Nat) : ∀ (m : Nat) (s : Sql__0), h5_0 Cl n [] m s.st = lql__0 Cl n m s := by
 intro m
 induction m with
 | zero => intro s; kernel_rfl
 | succ m ih =>
  intro s
  cases s with
  | s0 a0 a1 =>
   have h : h5_0 Cl n [] (m + 1) (sql__0_0 a0 a1) = wql__0_0 Cl n a0 a1 := by kernel_rfl
   exact h
def ttql_ (Cl : Oracle) (n : Nat) (H0 : Sql__0 → OR) (x0 : Bool) (x1 : RR) (x2 : Int) : OR :=
 (bif (decide (natI x1.length > (160 : Int))) then rF else (bif (decide (x2 < (0 : Int))) then rF else (bif (decide (x2 ≥ natI x1.length)) then rF else (H0 (.s0 x2 (((.im x0), x1), ()))))))
def tql_ (Cl : Oracle) (n : Nat) (x0 : Bool) (x1 : RR) (x2 : Int) : OR := ttql_ Cl n (lql__0 Cl n n) x0 x1 x2
theorem ptql_ (Cl : Oracle) (n : Nat) (x0 : Bool) (x1 : RR) (x2 : Int) : evBodyA an5 Cl n k5 [(.one (lC (.im x0) 6 x1)), (.one (iC x2))] [] = tql_ Cl n x0 x1 x2 := by
 have h : evBodyA an5 Cl n k5 [(.one (lC (.im x0) 6 x1)), (.one (iC x2))] [] = ttql_ Cl n (fun s => h5_0 Cl n [] n s.st) x0 x1 x2 := by kernel_rfl
 have e0 : (fun s => h5_0 Cl n [] n s.st) = lql__0 Cl n n := funext (hlql__0 Cl n n)
 rw [e0] at h
 exact h
def tqz_ (Cl : Oracle) (n : Nat) (x0 : Bool) (x1 : RR) (x2 : Int) : OR :=
 (tRes rs2 (Cl 5 [(.one (lC (.im x0) 6 x1)), (.one (iC x2))] []) fun v0 => (bif (!v0.1) then (some ((.one (sC [])), [])) else (tRes rs4 (Cl 19 [pE, (.one (lC (.im x0) 6 x1)), (.one (iC x2))] [(bx sh5 ((), ((.im true), []), ()))]) fun v1 => (tRes rs5 (Cl 20 [pE] [(bx sh5 (v1.2.1))]) fun v2 => (some ((.one (sC (v2.1))), []))))))
theorem ptqz_ (Cl : Oracle) (n : Nat) (x0 : Bool) (x1 : RR) (x2 : Int) : evBodyA an7 Cl n k7 [(.one (lC (.im x0) 6 x1)), (.one (iC x2))] [] = tqz_ Cl n x0 x1 x2 := by kernel_rfl
def sqi__0_0 (a0 : RowT sh0) (a1 : RowT sh7) (a2 : RowT sh0) : Go.Abs.St := [((.r (.l 2)), ⟨(.one (iC 3)), 1⟩), ((.b (.l 2) 0), ⟨(.one (lC a0.1.1 3 a0.1.2)), 0⟩), ((.b (.l 2) 1), ⟨(.one (lC a0.2.1.1 2 a0.2.1.2)), 0⟩), ((.b (.l 2) 2), ⟨(.one (lC a0.2.2.1.1 4 a0.2.2.1.2)), 0⟩), ((.s 2), ⟨(.one (.ptr (.l 2) 1 0)), 0⟩), ((.r (.l 25)), ⟨(.one (iC 8)), 1⟩), ((.b (.l 25) 0), ⟨(.one (lC (.im a1.1.1) 3 a1.1.2)), 0⟩), ((.b (.l 25) 1), ⟨(.one (iC a1.2.1)), 0⟩), ((.b (.l 25) 2), ⟨(.one (iC a1.2.2.1)), 0⟩), ((.b (.l 25) 3), ⟨(.one (iC a1.2.2.2.1)), 0⟩), ((.b (.l 25) 4), ⟨(.one (sC a1.2.2.2.2.1)), 0⟩), ((.b (.l 25) 5), ⟨(.one (lC a1.2.2.2.2.2.1.1 3 a1.2.2.2.2.2.1.2)), 0⟩), ((.b (.l 25) 6), ⟨(.one (lC a1.2.2.2.2.2.2.1.1 6 a1.2.2.2.2.2.2.1.2)), 0⟩), ((.b (.l 25) 7), ⟨(.one (lC a1.2.2.2.2.2.2.2.1.1 10 a1.2.2.2.2.2.2.2.1.2)), 0⟩), ((.s 8), ⟨(.one (.ptr (.l 25) 1 0)), 0⟩), ((.r (.l 9)), ⟨(.one (iC 3)), 1⟩), ((.b (.l 9) 0), ⟨(.one (lC a2.1.1 3 a2.1.2)), 0⟩), ((.b (.l 9) 1), ⟨(.one (lC a2.2.1.1 2 a2.2.1.2)), 0⟩), ((.b (.l 9) 2), ⟨(.one (lC a2.2.2.1.1 4 a2.2.2.1.2)), 0⟩), ((.s 9), ⟨(.one (.ptr (.l 9) 1 0)), 0⟩)]
inductive Sqi__0 where | s0 (a0 : RowT sh0) (a1 : RowT sh7) (a2 : RowT sh0)
def Sqi__0.st : Sqi__0 → Go.Abs.St | .s0 a0 a1 a2 => sqi__0_0 a0 a1 a2
def wqi__0_0 (Cl : Oracle) (n : Nat) (H0 : Sqi__0 → OR) (a0 : RowT sh0) (a1 : RowT sh7) (a2 : RowT sh0) : OR :=
 (tRes rs6 (Cl 12 [pE] [(bx sh7 a1)]) fun v1 => (bif (v1.1) then (tRes rs6 (Cl 13 [pE, (.one (sC [112, 114, 111, 116, 111, 99, 111, 108]))] [(bx sh7 (v1.2.1))]) fun v2 => (bif (v2.1) then (tagI (a2.1.1) (fun b3 => (tRes rs7 (Cl 14 [pE] [(bx sh7 (v2.2.1))]) fun v4 => (gd (b3 && true && true) (H0 (.s0 a0 (v4.2.1) ((.own, [[(.str (v4.1.1)), (.sl (.im (v4.1.2.1.1)) 1 (v4.1.2.1.2)), (.sl (.im (v4.1.2.2.1.1)) 3 (v4.1.2.2.1.2))]]), a2.2)))))) (tRes rs7 (Cl 14 [pE] [(bx sh7 (v2.2.1))]) fun v5 => (gd (a2.1.2.length == a2.1.2.length && true && decide ((a2.1.2.length + 1) * 64 ≤ 140737488355328)) (H0 (.s0 a0 (v5.2.1) ((.own, (a2.1.2 ++ [[D.str [], D.sl (.im true) 1 [], D.sl (.im true) 3 []]].set 0 [D.str v5.1.1, D.sl (.im v5.1.2.1.1) 1 v5.1.2.1.2, D.sl (.im v5.1.2.2.1.1) 3 v5.1.2.2.1.2])), a2.2)))))) else (tRes rs6 (Cl 13 [pE, (.one (sC [108, 111, 99, 97, 108]))] [(bx sh7 (v2.2.1))]) fun v6 => (bif (v6.1) then (tagI (a2.2.1.1) (fun b7 => (tRes rs8 (Cl 15 [pE] [(bx sh7 (v6.2.1))]) fun v8 => (gd (b7 && true && true) (H0 (.s0 a0 (v8.2.1) (a2.1, (.own, [[(.str (v8.1.1)), (.sl (.im (v8.1.2.1.1)) 3 (v8.1.2.1.2))]]), a2.2.2.1, ())))))) (tRes rs8 (Cl 15 [pE] [(bx sh7 (v6.2.1))]) fun v9 => (gd (a2.2.1.2.length == a2.2.1.2.length && true && decide ((a2.2.1.2.length + 1) * 40 ≤ 140737488355328)) (H0 (.s0 a0 (v9.2.1) (a2.1, (.own, (a2.2.1.2 ++ [[D.str [], D.sl (.im true) 3 []]].set 0 [D.str v9.1.1, D.sl (.im v9.1.2.1.1) 3 v9.1.2.1.2])), a2.2.2.1, ())))))) else (tRes rs6 (Cl 13 [pE, (.one (sC [112, 114, 111, 99]))] [(bx sh7 (v6.2.1))]) fun v10 => (bif (v10.1) then (tagI (a2.2.2.1.1) (fun b11 => (tRes rs9 (Cl 16 [pE] [(bx sh7 (v10.2.1))]) fun v12 => (gd (b11 && true && true) (H0 (.s0 a0 (v12.2.1) (a2.1, a2.2.1, (.own, [[(.str (v12.1.1)), (.sl (.im (v12.1.2.1.1)) 3 (v12.1.2.1.2)), (.sl (.im (v12.1.2.2.1.1)) 6 (v12.1.2.2.1.2)), (.sl (.im (v12.1.2.2.2.1.1)) 10 (v12.1.2.2.2.1.2))]]), ())))))) (tRes rs9 (Cl 16 [pE] [(bx sh7 (v10.2.1))]) fun v13 => (gd (a2.2.2.1.2.length == a2.2.2.1.2.length && true && decide ((a2.2.2.1.2.length + 1) * 88 ≤ 140737488355328)) (H0 (.s0 a0 (v13.2.1) (a2.1, a2.2.1, (.own, (a2.2.2.1.2 ++ [[D.str [], D.sl (.im true) 3 [], D.sl (.im true) 6 [], D.sl (.im true) 10 []]].set 0 [D.str v13.1.1, D.sl (.im v13.1.2.1.1) 3 v13.1.2.1.2, D.sl (.im v13.1.2.2.1.1) 6 v13.1.2.2.1.2, D.sl (.im v13.1.2.2.2.1.1) 10 v13.1.2.2.2.1.2])), ())))))) else (tRes rs10 (Cl 17 [pE] [(bx sh7 (v10.2.1))]) fun v14 => (H0 (.s0 a0 (v14.2.1) a2))))))))) else (tRes rs6 (Cl 18 [pE] [(bx sh7 (v1.2.1))]) fun v15 => (bif (v15.1) then (some ((.tup [(.agg [(lC (.im true) 3 []), (lC (.im true) 2 []), (lC (.im true) 4 [])]), (.one (iC (v15.2.1.2.2.2.1))), (.one (iC 1701))]), [])) else (tagI (a2.1.1) (fun b16 => (tagI (a2.2.1.1) (fun b17 => (tagI (a2.2.2.1.1) (fun b18 => (some ((.tup [(.agg [(lC (.im b16) 3 (a2.1.2)), (lC (.im b17) 2 (a2.2.1.2)), (lC (.im b18) 4 (a2.2.2.1.2))]), (.one (iC 0)), (.one (iC 0))]), []))) (gd (a2.2.2.1.2.length == a2.2.2.1.2.length && (!a2.2.2.1.2.isEmpty || true)) (gd (decide (0 + a2.2.2.1.2.length ≤ a2.2.2.1.2.length)) (some ((.tup [(.agg [(lC (.im b16) 3 (a2.1.2)), (lC (.im b17) 2 (a2.2.1.2)), (lC (.im false) 4 (plainRs (whole a2.2.2.1.2)))]), (.one (iC 0)), (.one (iC 0))]), [])))))) (tagI (a2.2.2.1.1) (fun b19 => (gd (a2.2.1.2.length == a2.2.1.2.length && (!a2.2.1.2.isEmpty || true)) (gd (decide (0 + a2.2.1.2.length ≤ a2.2.1.2.length)) (some ((.tup [(.agg [(lC (.im b16) 3 (a2.1.2)), (lC (.im false) 2 (plainRs (whole a2.2.1.2))), (lC (.im b19) 4 (a2.2.2.1.2))]), (.one (iC 0)), (.one (iC 0))]), []))))) (gd (a2.2.1.2.length == a2.2.1.2.length && (!a2.2.1.2.isEmpty || true)) (gd (a2.2.2.1.2.length == a2.2.2.1.2.length && (!a2.2.2.1.2.isEmpty || true)) (gd (decide (0 + a2.2.1.2.length ≤ a2.2.1.2.length)) (gd (decide (0 + a2.2.2.1.2.length ≤ a2.2.2.1.2.length)) (some ((.tup [(.agg [(lC (.im b16) 3 (a2.1.2)), (lC (.im false) 2 (plainRs (whole a2.2.1.2))), (lC (.im false) 4 (plainRs (whole a2.2.2.1.2)))]), (.one (iC 0)), (.one (iC 0))]), []))))))))) (tagI (a2.2.1.1) (fun b20 => (tagI (a2.2.2.1.1) (fun b21 => (gd (a2.1.2.length == a2.1.2.length && (!a2.1.2.isEmpty || true)) (gd (decide (0 + a2.1.2.length ≤ a2.1.2.length)) (some ((.tup [(.agg [(lC (.im false) 3 (plainRs (whole a2.1.2))), (lC (.im b20) 2 (a2.2.1.2)), (lC (.im b21) 4 (a2.2.2.1.2))]), (.one (iC 0)), (.one (iC 0))]), []))))) (gd (a2.1.2.length == a2.1.2.length && (!a2.1.2.isEmpty || true)) (gd (a2.2.2.1.2.length == a2.2.2.1.2.length && (!a2.2.2.1.2.isEmpty || true)) (gd (decide (0 + a2.1.2.length ≤ a2.1.2.length)) (gd (decide (0 + a2.2.2.1.2.length ≤ a2.2.2.1.2.length)) (some ((.tup [(.agg [(lC (.im false) 3 (plainRs (whole a2.1.2))), (lC (.im b20) 2 (a2.2.1.2)), (lC (.im false) 4 (plainRs (whole a2.2.2.1.2)))]), (.one (iC 0)), (.one (iC 0))]), [])))))))) (tagI (a2.2.2.1.1) (fun b22 => (gd (a2.1.2.length == a2.1.2.length && (!a2.1.2.isEmpty || true)) (gd (a2.2.1.2.length == a2.2.1.2.length && (!a2.2.1.2.isEmpty || true)) (gd (decide (0 + a2.1.2.length ≤ a2.1.2.length)) (gd (decide (0 + a2.2.1.2.length ≤ a2.2.1.2.length)) (some ((.tup [(.agg [(lC (.im false) 3 (plainRs (whole a2.1.2))), (lC (.im false) 2 (plainRs (whole a2.2.1.2))), (lC (.im b22) 4 (a2.2.2.1.2))]), (.one (iC 0)), (.one (iC 0))]), []))))))) (gd (a2.1.2.length == a2.1.2.length && (!a2.1.2.isEmpty || true)) (gd (a2.2.1.2.length == a2.2.1.2.length && (!a2.2.1.2.isEmpty || true)) (gd (a2.2.2.1.2.length == a2.2.2.1.2.length && (!a2.2.2.1.2.isEmpty || true)) (gd (decide (0 + a2.1.2.length ≤ a2.1.2.length)) (gd (decide (0 + a2.2.1.2.length ≤ a2.2.1.2.length)) (gd (decide (0 + a2.2.2.1.2.length ≤ a2.2.2.1.2.length)) (some ((.tup [(.agg [(lC (.im false) 3 (plainRs (whole a2.1.2))), (lC (.im false) 2 (plainRs (whole a2.2.1.2))), (lC (.im false) 4 (plainRs (whole a2.2.2.1.2)))]), (.one (iC 0)), (.one (iC 0))]), [])))))))))))))))
def lqi__0 (Cl : Oracle) (n : Nat) (m : Nat) : Sqi__0 → OR := Nat.rec (fun _ => none) (fun _ ih s => match s with | .s0 a0 a1 a2 => wqi__0_0 Cl n ih a0 a1 a2) m
theorem hlqi__0 (Cl : Oracle) (n : Nat) : ∀ (m : Nat) (s : Sqi__0), h6_0 Cl n [] m s.st = lqi__0 Cl n m s := by
 intro m
 induction m with
 | zero => intro s; kernel_rfl
 | succ m ih =>
  intro s
  have e0 : (fun s => h6_0 Cl n [] m s.st) = lqi__0 Cl n m := funext ih
  cases s with
  | s0 a0 a1 a2 =>
   have h : h6_0 Cl n [] (m + 1) (sqi__0_0 a0 a1 a2) = wqi__0_0 Cl n (fun s => h6_0 Cl n [] m s.st) a0 a1 a2 := by kernel_rfl
   rw [e0] at h
   exact h
def ttqi_ (Cl : Oracle) (n : Nat) (H0 : Sqi__0 → OR) (x0 : BB) : OR :=
 (tRes rs11 (Cl 11 [(.one (sC x0))] []) fun v0 => (bif (v0.1.2.2.1 != (0 : Int)) then (some ((.tup [(.agg [(lC (.im true) 3 []), (lC (.im true) 2 []), (lC (.im true) 4 [])]), (.one (iC (v0.1.2.1))), (.one (iC 1700))]), [])) else (H0 (.s0 (((.im true), []), ((.im true), []), ((.im true), []), ()) (v0.1.1, 0, (natI x0.length), (-1), [], ((.im true), []), ((.im true), []), ((.im true), []), ()) (((.im true), []), ((.im true), []), ((.im true), []), ())))))
def tqi_ (Cl : Oracle) (n : Nat) (x0 : BB) : OR := ttqi_ Cl n (lqi__0 Cl n n) x0
theorem ptqi_ (Cl : Oracle) (n : Nat) (x0 : BB) : evBodyA an6 Cl n k6 [(.one (sC x0))] [] = tqi_ Cl n x0 := by
 have h : evBodyA an6 Cl n k6 [(.one (sC x0))] [] = ttqi_ Cl n (fun s => h6_0 Cl n [] n s.st) x0 := by kernel_rfl
 have e0 : (fun s => h6_0 Cl n [] n s.st) = lqi__0 Cl n n := funext (hlqi__0 Cl n n)
 rw [e0] at h
 exact h
def sq7__0_0 (a0 : Int) (a1 : Int) (a2 : RowT [.tg 6]) (a3 : RowT [.tg 1]) (a4 : RowT sh4) (a5 : Int) (a6 : RR) (a7 : Int) (a8 : Int) : Go.Abs.St := [((.s 0), ⟨(.one (iC a0)), 0⟩), ((.s 1), ⟨(.one (iC a1)), 0⟩), ((.s 4), ⟨(.one (.ptr (.e 2) 0 0)), 0⟩), ((.r (.e 0)), ⟨(.one (iC 1)), 0⟩), ((.b (.e 0) 0), ⟨(.one (lC a2.1.1 6 a2.1.2)), 0⟩), ((.r (.e 1)), ⟨(.one (iC 1)), 0⟩), ((.b (.e 1) 0), ⟨(.one (lC a3.1.1 1 a3.1.2)), 0⟩), ((.r (.e 2)), ⟨(.one (iC 1)), 0⟩), ((.b (.e 2) 0), ⟨(.one (.fn 8 [] [(.ptr (.e 0) 0 0), (.ptr (.e 1) 0 0), (.ptr (.e 2) 0 0)])), 0⟩), ((.s 9), ⟨(.one (iC a5)), 0⟩), ((.s 43), ⟨(.one (lC .own 1 a6)), 0⟩), ((.s 44), ⟨(.one (iC a7)), 0⟩), ((.s 45), ⟨(.one (iC a8)), 0⟩)]
def sq7__1_0 (a0 : Int) (a1 : Int) (a2 : RowT [.tg 6]) (a3 : RowT [.tg 1]) (a4 : RowT sh4) (a5 : RowT sh10) (a6 : Int) : Go.Abs.St := [((.s 0), ⟨(.one (iC a0)), 0⟩), ((.s 1), ⟨(.one (iC a1)), 0⟩), ((.s 3), ⟨(.one (.ptr (.e 1) 0 0)), 0⟩), ((.s 4), ⟨(.one (.ptr (.e 2) 0 0)), 0⟩), ((.r (.e 0)), ⟨(.one (iC 1)), 0⟩), ((.b (.e 0) 0), ⟨(.one (lC a2.1.1 6 a2.1.2)), 0⟩), ((.r (.e 1)), ⟨(.one (iC 1)), 0⟩), ((.b (.e 1) 0), ⟨(.one (lC a3.1.1 1 a3.1.2)), 0⟩), ((.r (.e 2)), ⟨(.one (iC 1)), 0⟩), ((.b (.e 2) 0), ⟨(.one (.fn 8 [] [(.ptr (.e 0) 0 0), (.ptr (.e 1) 0 0), (.ptr (.e 2) 0 0)])), 0⟩), ((.r (.l 8)), ⟨(.one (iC 6)), 1⟩), ((.b (.l 8) 0), ⟨(.one (iC a5.1)), 0⟩), ((.b (.l 8) 1), ⟨(.one (sC a5.2.1)), 0⟩), ((.b (.l 8) 2), ⟨(.one (iC a5.2.2.1)), 0⟩), ((.b (.l 8) 3), ⟨(.one (sC a5.2.2.2.1)), 0⟩), ((.b (.l 8) 4), ⟨(.one (iC a5.2.2.2.2.1)), 0⟩), ((.b (.l 8) 5), ⟨(.one (iC a5.2.2.2.2.2.1)), 0⟩), ((.s 8), ⟨(.one (.ptr (.l 8) 1 0)), 0⟩), ((.s 9), ⟨(.one (iC a6)), 0⟩)]
inductive Sq7__0 where | s0 (a0 : Int) (a1 : Int) (a2 : RowT [.tg 6]) (a3 : RowT [.tg 1]) (a4 : RowT sh4) (a5 : Int) (a6 : RR) (a7 : Int) (a8 : Int)
def Sq7__0.st : Sq7__0 → Go.Abs.St | .s0 a0 a1 a2 a3 a4 a5 a6 a7 a8 => sq7__0_0 a0 a1 a2 a3 a4 a5 a6 a7 a8
inductive Sq7__1 where | s0 (a0 : Int) (a1 : Int) (a2 : RowT [.tg 6]) (a3 : RowT [.tg 1]) (a4 : RowT sh4) (a5 : RowT sh10) (a6 : Int)
def Sq7__1.st : Sq7__1 → Go.Abs.St | .s0 a0 a1 a2 a3 a4 a5 a6 => sq7__1_0 a0 a1 a2 a3 a4 a5 a6
def wq7__0_0 (Cl : Oracle) (n : Nat) (x2 : RowT [.tg 6]) (x3 : RowT [.tg 1]) (x4 : RowT sh4) (H0 : Sq7__0 → OR) (a0 : Int) (a1 : Int) (a2 : RowT [.tg 6]) (a3 : RowT [.tg 1]) (a4 : RowT sh4) (a5 : Int) (a6 : RR) (a7 : Int) (a8 : Int) : OR :=
 (bif (decide (a8 < a7)) then (qOpt (asI a8) fun o33 => (gd (decide (o33 < a6.length)) (qOpt (a6[0 + o33]?) fun o34 => (gd (decide (0 + 1 ≤ o34.length)) (tRow sh3 (List.take 1 (List.drop 0 o34)) fun v35 => (bif (decide (a8 ≥ a5)) then (bif (v35.1 != (-1 : Int)) then (some ((.one (bC false)), [(bx [.tg 6] a2), (bx [.tg 1] a3), (bx sh4 ((), ()))])) else (H0 (.s0 a0 a1 a2 a3 ((), ()) a5 a6 a7 (w64 (a8 + (1 : Int)))))) else (bif (decide (v35.1 < (0 : Int))) then (some ((.one (bC false)), [(bx [.tg 6] a2), (bx [.tg 1] a3), (bx sh4 ((), ()))])) else (bif (decide (v35.1 ≥ a0)) then (some ((.one (bC false)), [(bx [.tg 6] a2), (bx [.tg 1] a3), (bx sh4 ((), ()))])) else (tRes rs3 (Cl 8 [(.one (iC (v35.1))), (.one (iC (w64 (a1 + (1 : Int))))), pE, (.one (.ptr (.e 1) 0 0)), (.one (.ptr (.e 2) 0 0))] [(bx [.tg 6] a2), (bx [.tg 1] a3), (bx sh4 ((), ()))]) fun v36 => (bif (!v36.1) then (some ((.one (bC false)), [(bx [.tg 6] (v36.2.1)), (bx [.tg 1] (v36.2.2.1)), (bx sh4 ((), ()))])) else (H0 (.s0 a0 a1 (v36.2.1) (v36.2.2.1) ((), ()) a5 a6 a7 (w64 (a8 + (1 : Int))))))))))))))) else (some ((.one (bC true)), [(bx [.tg 6] a2), (bx [.tg 1] a3), (bx sh4 ((), ()))])))
def wq7__1_0 (Cl : Oracle) (n : Nat) (x2 : RowT [.tg 6]) (x3 : RowT [.tg 1]) (x4 : RowT sh4) (H0 : Sq7__0 → OR) (a0 : Int) (a1 : Int) (a2 : RowT [.tg 6]) (a3 : RowT [.tg 1]) (a4 : RowT sh4) (a5 : RowT sh10) (a6 : Int) : OR :=
 (tagI (a3.1.1) (fun b27 => (qOpt (asI a0) fun o28 => (qOpt (a3.1.2[o28]?) fun o29 => none))) (qOpt (asI a0) fun o30 => (gd (decide (o30 < a3.1.2.length)) (qOpt (a3.1.2[0 + o30]?) fun o31 => (gd (decide (0 + 1 ≤ o31.length) && true) (tRow [.bool] (List.take 1 (List.drop 0 o31)) fun v32 => (H0 (.s0 a0 a1 a2 ((.own, (rset a3.1.2 (0 + o30) 0 (D.bool true))), ()) ((), ()) a6 [[(.int .i64 (a5.2.2.2.2.1))], [(.int .i64 (a5.2.2.2.2.2.1))]] 2 0))))))))
def lq7__0 (Cl : Oracle) (n : Nat) (x2 : RowT [.tg 6]) (x3 : RowT [.tg 1]) (x4 : RowT sh4) (m : Nat) : Sq7__0 → OR := Nat.rec (fun _ => none) (fun _ ih s => match s with | .s0 a0 a1 a2 a3 a4 a5 a6 a7 a8 => wq7__0_0 Cl n x2 x3 x4 ih a0 a1 a2 a3 a4 a5 a6 a7 a8) m
theorem hlq7__0 (Cl : Oracle) (n : Nat) (x2 : RowT [.tg 6]) (x3 : RowT [.tg 1]) (x4 : RowT sh4) : ∀ (m : Nat) (s : Sq7__0), h8_0 Cl n [(bx [.tg 6] x2), (bx [.tg 1] x3), (bx sh4 x4)] m s.st = lq7__0 Cl n x2 x3 x4 m s := by
 intro m
 induction m with
 | zero => intro s; kernel_rfl
 | succ m ih =>
  intro s
  have e0 : (fun s => h8_0 Cl n [(bx [.tg 6] x2), (bx [.tg 1] x3), (bx sh4 x4)] m s.st) = lq7__0 Cl n x2 x3 x4 m := funext ih
  cases s with
  | s0 a0 a1 a2 a3 a4 a5 a6 a7 a8 =>
   have h : h8_0 Cl n [(bx [.tg 6] x2), (bx [.tg 1] x3), (bx sh4 x4)] (m + 1) (sq7__0_0 a0 a1 a2 a3 a4 a5 a6 a7 a8) = wq7__0_0 Cl n x2 x3 x4 (fun s => h8_0 Cl n [(bx [.tg 6] x2), (bx [.tg 1] x3), (bx sh4 x4)] m s.st) a0 a1 a2 a3 a4 a5 a6 a7 a8 := by kernel_rfl
   rw [e0] at h
   exact h
def lq7__1 (Cl : Oracle) (n : Nat) (x2 : RowT [.tg 6]) (x3 : RowT [.tg 1]) (x4 : RowT sh4) (m : Nat) : Sq7__1 → OR := Nat.rec (fun _ => none) (fun _ ih s => match s with | .s0 a0 a1 a2 a3 a4 a5 a6 => wq7__1_0 Cl n x2 x3 x4 (lq7__0 Cl n x2 x3 x4 n) a0 a1 a2 a3 a4 a5 a6) m
theorem hlq7__1 (Cl : Oracle) (n : Nat) (x2 : RowT [.tg 6]) (x3 : RowT [.tg 1]) (x4 : RowT sh4) : ∀ (m : Nat) (s : Sq7__1), h8_1 Cl n [(bx [.tg 6] x2), (bx [.tg 1] x3), (bx sh4 x4)] m s.st = lq7__1 Cl n x2 x3 x4 m s := by
 intro m
 induction m with
 | zero => intro s; kernel_rfl
 | succ m ih =>
  intro s
  have e0 : (fun s => h8_0 Cl n [(bx [.tg 6] x2), (bx [.tg 1] x3), (bx sh4 x4)] n s.st) = lq7__0 Cl n x2 x3 x4 n := funext (hlq7__0 Cl n x2 x3 x4 n)
  cases s with
  | s0 a0 a1 a2 a3 a4 a5 a6 =>
   have h : h8_1 Cl n [(bx [.tg 6] x2), (bx [.tg 1] x3), (bx sh4 x4)] (m + 1) (sq7__1_0 a0 a1 a2 a3 a4 a5 a6) = wq7__1_0 Cl n x2 x3 x4 (fun s => h8_0 Cl n [(bx [.tg 6] x2), (bx [.tg 1] x3), (bx sh4 x4)] n s.st) a0 a1 a2 a3 a4 a5 a6 := by kernel_rfl
   rw [e0] at h
   exact h
def ttq7_ (Cl : Oracle) (n : Nat) (H1 : Sq7__1 → OR) (x0 : Int) (x1 : Int) (x2 : RowT [.tg 6]) (x3 : RowT [.tg 1]) (x4 : RowT sh4) : OR :=
 (tagI (x2.1.1) (fun b0 => (qOpt (asI x0) fun o1 => (qOpt (x2.1.2[o1]?) fun o2 => (gd (decide (6 ≤ o2.length)) (tRow sh10 (List.take 6 o2) fun v3 => (tRes rs12 (Cl 9 [(.one (iC (v3.1)))] []) fun v4 => (tagI (x3.1.1) (fun b5 => (qOpt (asI x0) fun o6 => (qOpt (x3.1.2[o6]?) fun o7 => (gd (decide (1 ≤ o7.length)) (tRow [.bool] (List.take 1 o7) fun v8 => (bif (v8.1) then (some ((.one (bC false)), [(bx [.tg 6] (((.im b0), (x2.1.2)), ())), (bx [.tg 1] (((.im b5), (x3.1.2)), ())), (bx sh4 ((), ()))])) else (bif (decide (x1 > (24 : Int))) then (some ((.one (bC false)), [(bx [.tg 6] (((.im b0), (x2.1.2)), ())), (bx [.tg 1] (((.im b5), (x3.1.2)), ())), (bx sh4 ((), ()))])) else (bif (decide (v4.1 < (0 : Int))) then (some ((.one (bC false)), [(bx [.tg 6] (((.im b0), (x2.1.2)), ())), (bx [.tg 1] (((.im b5), (x3.1.2)), ())), (bx sh4 ((), ()))])) else (tRes rs2 (Cl 10 [(.agg [(iC (v3.1)), (sC (v3.2.1)), (iC (v3.2.2.1)), (sC (v3.2.2.2.1)), (iC (v3.2.2.2.2.1)), (iC (v3.2.2.2.2.2.1))])] []) fun v9 => (bif (!v9.1) then (some ((.one (bC false)), [(bx [.tg 6] (((.im b0), (x2.1.2)), ())), (bx [.tg 1] (((.im b5), (x3.1.2)), ())), (bx sh4 ((), ()))])) else (H1 (.s0 x0 x1 (((.im b0), (x2.1.2)), ()) (((.im b5), (x3.1.2)), ()) ((), ()) v3 (v4.1))))))))))))) (qOpt (asI x0) fun o10 => (gd (decide (o10 < x3.1.2.length)) (qOpt (x3.1.2[0 + o10]?) fun o11 => (gd (decide (0 + 1 ≤ o11.length)) (tRow [.bool] (List.take 1 (List.drop 0 o11)) fun v12 => (bif (v12.1) then (some ((.one (bC false)), [(bx [.tg 6] (((.im b0), (x2.1.2)), ())), (bx [.tg 1] ((.own, (x3.1.2)), ())), (bx sh4 ((), ()))])) else (bif (decide (x1 > (24 : Int))) then (some ((.one (bC false)), [(bx [.tg 6] (((.im b0), (x2.1.2)), ())), (bx [.tg 1] ((.own, (x3.1.2)), ())), (bx sh4 ((), ()))])) else (bif (decide (v4.1 < (0 : Int))) then (some ((.one (bC false)), [(bx [.tg 6] (((.im b0), (x2.1.2)), ())), (bx [.tg 1] ((.own, (x3.1.2)), ())), (bx sh4 ((), ()))])) else (tRes rs2 (Cl 10 [(.agg [(iC (v3.1)), (sC (v3.2.1)), (iC (v3.2.2.1)), (sC (v3.2.2.2.1)), (iC (v3.2.2.2.2.1)), (iC (v3.2.2.2.2.2.1))])] []) fun v13 => (bif (!v13.1) then (some ((.one (bC false)), [(bx [.tg 6] (((.im b0), (x2.1.2)), ())), (bx [.tg 1] ((.own, (x3.1.2)), ())), (bx sh4 ((), ()))])) else (H1 (.s0 x0 x1 (((.im b0), (x2.1.2)), ()) ((.own, (x3.1.2)), ()) ((), ()) v3 (v4.1)))))))))))))))))))) (qOpt (asI x0) fun o14 => (gd (decide (o14 < x2.1.2.length)) (qOpt (x2.1.2[0 + o14]?) fun o15 => (gd (decide (0 + 6 ≤ o15.length)) (tRow sh10 (List.take 6 (List.drop 0 o15)) fun v16 => (tRes rs12 (Cl 9 [(.one (iC (v16.1)))] []) fun v17 => (tagI (x3.1.1) (fun b18 => (qOpt (asI x0) fun o19 => (qOpt (x3.1.2[o19]?) fun o20 => (gd (decide (1 ≤ o20.length)) (tRow [.bool] (List.take 1 o20) fun v21 => (bif (v21.1) then (some ((.one (bC false)), [(bx [.tg 6] ((.own, (x2.1.2)), ())), (bx [.tg 1] (((.im b18), (x3.1.2)), ())), (bx sh4 ((), ()))])) else (bif (decide (x1 > (24 : Int))) then (some ((.one (bC false)), [(bx [.tg 6] ((.own, (x2.1.2)), ())), (bx [.tg 1] (((.im b18), (x3.1.2)), ())), (bx sh4 ((), ()))])) else (bif (decide (v17.1 < (0 : Int))) then (some ((.one (bC false)), [(bx [.tg 6] ((.own, (x2.1.2)), ())), (bx [.tg 1] (((.im b18), (x3.1.2)), ())), (bx sh4 ((), ()))])) else (tRes rs2 (Cl 10 [(.agg [(iC (v16.1)), (sC (v16.2.1)), (iC (v16.2.2.1)), (sC (v16.2.2.2.1)), (iC (v16.2.2.2.2.1)), (iC (v16.2.2.2.2.2.1))])] []) fun v22 => (bif (!v22.1) then (some ((.one (bC false)), [(bx [.tg 6] ((.own, (x2.1.2)), ())), (bx [.tg 1] (((.im b18), (x3.1.2)), ())), (bx sh4 ((), ()))])) else (H1 (.s0 x0 x1 ((.own, (x2.1.2)), ()) (((.im b18), (x3.1.2)), ()) ((), ()) v16 (v17.1))))))))))))) (qOpt (asI x0) fun o23 => (gd (decide (o23 < x3.1.2.length)) (qOpt (x3.1.2[0 + o23]?) fun o24 => (gd (decide (0 + 1 ≤ o24.length)) (tRow [.bool] (List.take 1 (List.drop 0 o24)) fun v25 => (bif (v25.1) then (some ((.one (bC false)), [(bx [.tg 6] ((.own, (x2.1.2)), ())), (bx [.tg 1] ((.own, (x3.1.2)), ())), (bx sh4 ((), ()))])) else (bif (decide (x1 > (24 : Int))) then (some ((.one (bC false)), [(bx [.tg 6] ((.own, (x2.1.2)), ())), (bx [.tg 1] ((.own, (x3.1.2)), ())), (bx sh4 ((), ()))])) else (bif (decide (v17.1 < (0 : Int))) then (some ((.one (bC false)), [(bx [.tg 6] ((.own, (x2.1.2)), ())), (bx [.tg 1] ((.own, (x3.1.2)), ())), (bx sh4 ((), ()))])) else (tRes rs2 (Cl 10 [(.agg [(iC (v16.1)), (sC (v16.2.1)), (iC (v16.2.2.1)), (sC (v16.2.2.2.1)), (iC (v16.2.2.2.2.1)), (iC (v16.2.2.2.2.2.1))])] []) fun v26 => (bif (!v26.1) then (some ((.one (bC false)), [(bx [.tg 6] ((.own, (x2.1.2)), ())), (bx [.tg 1] ((.own, (x3.1.2)), ())), (bx sh4 ((), ()))])) else (H1 (.s0 x0 x1 ((.own, (x2.1.2)), ()) ((.own, (x3.1.2)), ()) ((), ()) v16 (v17.1)))))))))))))))))))))
def tq7_ (Cl : Oracle) (n : Nat) (x0 : Int) (x1 : Int) (x2 : RowT [.tg 6]) (x3 : RowT [.tg 1]) (x4 : RowT sh4) : OR := ttq7_ Cl n (lq7__1 Cl n x2 x3 x4 n) x0 x1 x2 x3 x4
theorem ptq7_ (Cl : Oracle) (n : Nat) (x0 : Int) (x1 : Int) (x2 : RowT [.tg 6]) (x3 : RowT [.tg 1]) (x4 : RowT sh4) : evBodyA an8 Cl n k8 [(.one (iC x0)), (.one (iC x1)), pE, (.one (.ptr (.e 1) 0 0)), (.one (.ptr (.e 2) 0 0))] [(bx [.tg 6] x2), (bx [.tg 1] x3), (bx sh4 x4)] = tq7_ Cl n x0 x1 x2 x3 x4 := by
 have h : evBodyA an8 Cl n k8 [(.one (iC x0)), (.one (iC x1)), pE, (.one (.ptr (.e 1) 0 0)), (.one (.ptr (.e 2) 0 0))] [(bx [.tg 6] x2), (bx [.tg 1] x3), (bx sh4 x4)] = ttq7_ Cl n (fun s => h8_1 Cl n [(bx [.tg 6] x2), (bx [.tg 1] x3), (bx sh4 x4)] n s.st) x0 x1 x2 x3 x4 := by kernel_rfl
 have e1 : (fun s => h8_1 Cl n [(bx [.tg 6] x2), (bx [.tg 1] x3), (bx sh4 x4)] n s.st) = lq7__1 Cl n x2 x3 x4 n := funext (hlq7__1 Cl n x2 x3 x4 n)
 rw [e1] at h
 exact h
def tqq_ (Cl : Oracle) (n : Nat) (x0 : Bool) (x1 : RR) (x2 : Int) (x3 : RowT sh5) : OR :=
 (qOpt (asI x2) fun o0 => (qOpt (x1[o0]?) fun o1 => (gd (decide (6 ≤ o1.length)) (tRow sh10 (List.take 6 o1) fun v2 => (bif (decide (v2.2.2.2.2.1 < (0 : Int))) then (tRes rs0 (Cl 39 [(.agg [(iC (v2.1)), (sC (v2.2.1)), (iC (v2.2.2.1)), (sC (v2.2.2.2.1)), (iC (v2.2.2.2.2.1)), (iC (v2.2.2.2.2.2.1))])] []) fun v3 => (tRes rs13 (Cl 38 [pE, (.one (sC (v3.1)))] [(bx sh5 x3)]) fun v4 => (bif (v4.1.2.1) then (some ((.tup []), [(bx sh5 (v4.2.1))])) else (some ((.tup []), [(bx sh5 (v4.2.1))]))))) else (bif (v2.1 == (15 : Int)) then (tRes rs13 (Cl 38 [pE, (.one (sC [40, 110, 111, 116, 32]))] [(bx sh5 x3)]) fun v5 => (bif (v5.1.2.1) then (tRes rs4 (Cl 19 [pE, (.one (lC (.im x0) 6 x1)), (.one (iC (v2.2.2.2.2.1)))] [(bx sh5 (v5.2.1))]) fun v6 => (tRes rs13 (Cl 38 [pE, (.one (sC [41]))] [(bx sh5 (v6.2.1))]) fun v7 => (bif (v7.1.2.1) then (some ((.tup []), [(bx sh5 (v7.2.1))])) else (some ((.tup []), [(bx sh5 (v7.2.1))]))))) else (tRes rs4 (Cl 19 [pE, (.one (lC (.im x0) 6 x1)), (.one (iC (v2.2.2.2.2.1)))] [(bx sh5 (v5.2.1))]) fun v8 => (tRes rs13 (Cl 38 [pE, (.one (sC [41]))] [(bx sh5 (v8.2.1))]) fun v9 => (bif (v9.1.2.1) then (some ((.tup []), [(bx sh5 (v9.2.1))])) else (some ((.tup []), [(bx sh5 (v9.2.1))]))))))) else (tRes rs0 (Cl 40 [(.one (iC (v2.1)))] []) fun v10 => (bif (!v10.1 == []) then (tRes rs13 (Cl 38 [pE, (.one (sC [40]))] [(bx sh5 x3)]) fun v11 => (bif (v11.1.2.1) then (tRes rs4 (Cl 19 [pE, (.one (lC (.im x0) 6 x1)), (.one (iC (v2.2.2.2.2.1)))] [(bx sh5 (v11.2.1))]) fun v12 => (tRes rs0 (Cl 40 [(.one (iC (v2.1)))] []) fun v13 => (gd (decide (1 + List.length v13.1 ≤ 9223372036854775807)) (g63 (([32] ++ v13.1).length + 1) (tRes rs13 (Cl 38 [pE, (.one (sC ([32] ++ v13.1 ++ [32])))] [(bx sh5 (v12.2.1))]) fun v14 => (bif (v14.1.2.1) then (tRes rs4 (Cl 19 [pE, (.one (lC (.im x0) 6 x1)), (.one (iC (v2.2.2.2.2.2.1)))] [(bx sh5 (v14.2.1))]) fun v15 => (tRes rs13 (Cl 38 [pE, (.one (sC [41]))] [(bx sh5 (v15.2.1))]) fun v16 => (bif (v16.1.2.1) then (some ((.tup []), [(bx sh5 (v16.2.1))])) else (some ((.tup []), [(bx sh5 (v16.2.1))]))))) else (tRes rs4 (Cl 19 [pE, (.one (lC (.im x0) 6 x1)), (.one (iC (v2.2.2.2.2.2.1)))] [(bx sh5 (v14.2.1))]) fun v17 => (tRes rs13 (Cl 38 [pE, (.one (sC [41]))] [(bx sh5 (v17.2.1))]) fun v18 => (bif (v18.1.2.1) then (some ((.tup []), [(bx sh5 (v18.2.1))])) else (some ((.tup []), [(bx sh5 (v18.2.1))]))))))))))) else (tRes rs4 (Cl 19 [pE, (.one (lC (.im x0) 6 x1)), (.one (iC (v2.2.2.2.2.1)))] [(bx sh5 (v11.2.1))]) fun v19 => (tRes rs0 (Cl 40 [(.one (iC (v2.1)))] []) fun v20 => (g63 (1 + List.length v20.1) (g63 (([32] ++ v20.1).length + 1) (tRes rs13 (Cl 38 [pE, (.one (sC ([32] ++ v20.1 ++ [32])))] [(bx sh5 (v19.2.1))]) fun v21 => (bif (v21.1.2.1) then (tRes rs4 (Cl 19 [pE, (.one (lC (.im x0) 6 x1)), (.one (iC (v2.2.2.2.2.2.1)))] [(bx sh5 (v21.2.1))]) fun v22 => (tRes rs13 (Cl 38 [pE, (.one (sC [41]))] [(bx sh5 (v22.2.1))]) fun v23 => (bif (v23.1.2.1) then (some ((.tup []), [(bx sh5 (v23.2.1))])) else (some ((.tup []), [(bx sh5 (v23.2.1))]))))) else (tRes rs4 (Cl 19 [pE, (.one (lC (.im x0) 6 x1)), (.one (iC (v2.2.2.2.2.2.1)))] [(bx sh5 (v21.2.1))]) fun v24 => (tRes rs13 (Cl 38 [pE, (.one (sC [41]))] [(bx sh5 (v24.2.1))]) fun v25 => (bif (v25.1.2.1) then (some ((.tup []), [(bx sh5 (v25.2.1))])) else (some ((.tup []), [(bx sh5 (v25.2.1))]))))))))))))) else (tRes rs0 (Cl 41 [(.one (iC (v2.1)))] []) fun v26 => (g63 (List.length v26.1 + 1) (tRes rs13 (Cl 38 [pE, (.one (sC (v26.1 ++ [40])))] [(bx sh5 x3)]) fun v27 => (bif (v27.1.2.1) then (tRes rs4 (Cl 19 [pE, (.one (lC (.im x0) 6 x1)), (.one (iC (v2.2.2.2.2.1)))] [(bx sh5 (v27.2.1))]) fun v28 => (bif (decide (v2.2.2.2.2.2.1 ≥ (0 : Int))) then (tRes rs13 (Cl 38 [pE, (.one (sC [44, 32]))] [(bx sh5 (v28.2.1))]) fun v29 => (bif (v29.1.2.1) then (tRes rs4 (Cl 19 [pE, (.one (lC (.im x0) 6 x1)), (.one (iC (v2.2.2.2.2.2.1)))] [(bx sh5 (v29.2.1))]) fun v30 => (tRes rs13 (Cl 38 [pE, (.one (sC [41]))] [(bx sh5 (v30.2.1))]) fun v31 => (bif (v31.1.2.1) then (some ((.tup []), [(bx sh5 (v31.2.1))])) else (some ((.tup []), [(bx sh5 (v31.2.1))]))))) else (tRes rs4 (Cl 19 [pE, (.one (lC (.im x0) 6 x1)), (.one (iC (v2.2.2.2.2.2.1)))] [(bx sh5 (v29.2.1))]) fun v32 => (tRes rs13 (Cl 38 [pE, (.one (sC [41]))] [(bx sh5 (v32.2.1))]) fun v33 => (bif (v33.1.2.1) then (some ((.tup []), [(bx sh5 (v33.2.1))])) else (some ((.tup []), [(bx sh5 (v33.2.1))]))))))) else (tRes rs13 (Cl 38 [pE, (.one (sC [41]))] [(bx sh5 (v28.2.1))]) fun v34 => (bif (v34.1.2.1) then (some ((.tup []), [(bx sh5 (v34.2.1))])) else (some ((.tup []), [(bx sh5 (v34.2.1))])))))) else (tRes rs4 (Cl 19 [pE, (.one (lC (.im x0) 6 x1)), (.one (iC (v2.2.2.2.2.1)))] [(bx sh5 (v27.2.1))]) fun v35 => (bif (decide (v2.2.2.2.2.2.1 ≥ (0 : Int))) then (tRes rs13 (Cl 38 [pE, (.one (sC [44, 32]))] [(bx sh5 (v35.2.1))]) fun v36 => (bif (v36.1.2.1) then (tRes rs4 (Cl 19 [pE, (.one (lC (.im x0) 6 x1)), (.one (iC (v2.2.2.2.2.2.1)))] [(bx sh5 (v36.2.1))]) fun v37 => (tRes rs13 (Cl 38 [pE, (.one (sC [41]))] [(bx sh5 (v37.2.1))]) fun v38 => (bif (v38.1.2.1) then (some ((.tup []), [(bx sh5 (v38.2.1))])) else (some ((.tup []), [(bx sh5 (v38.2.1))]))))) else (tRes rs4 (Cl 19 [pE, (.one (lC (.im x0) 6 x1)), (.one (iC (v2.2.2.2.2.2.1)))] [(bx sh5 (v36.2.1))]) fun v39 => (tRes rs13 (Cl 38 [pE, (.one (sC [41]))] [(bx sh5 (v39.2.1))]) fun v40 => (bif (v40.1.2.1) then (some ((.tup []), [(bx sh5 (v40.2.1))])) else (some ((.tup []), [(bx sh5 (v40.2.1))]))))))) else (tRes rs13 (Cl 38 [pE, (.one (sC [41]))] [(bx sh5 (v35.2.1))]) fun v41 => (bif (v41.1.2.1) then (some ((.tup []), [(bx sh5 (v41.2.1))])) else (some ((.tup []), [(bx sh5 (v41.2.1))]))))))))))))))))))
theorem ptqq_ (Cl : Oracle) (n : Nat) (x0 : Bool) (x1 : RR) (x2 : Int) (x3 : RowT sh5) : evBodyA an19 Cl n k19 [pE, (.one (lC (.im x0) 6 x1)), (.one (iC x2))] [(bx sh5 x3)] = tqq_ Cl n x0 x1 x2 x3 := by kernel_rfl
def tq10_ (Cl : Oracle) (n : Nat) (x0 : RowT sh5) : OR :=
 (tagI (x0.2.1.1) (fun b0 => none) (gd (!x0.2.1.2.length == 0 && true) (gd (x0.2.1.2.length == x0.2.1.2.length && !x0.2.1.2.length == 0 && decide (x0.2.1.2.length ≤ 140737488355328)) (qOpt (toBytes x0.2.1.2) fun o1 => (some ((.one (sC o1)), [(bx sh6 ((), (), ()))]))))))
theorem ptq10_ (Cl : Oracle) (n : Nat) (x0 : RowT sh5) : evBodyA an20 Cl n k20 [pE] [(bx sh5 x0)] = tq10_ Cl n x0 := by kernel_rfl
def sq5__0_0 (a0 : BB) (a1 : Bool) (a2 : RR) (a3 : Int) : Go.Abs.St := [((.s 0), ⟨(.one (sC a0)), 0⟩), ((.s 5), ⟨(.one (lC (.im a1) 3 a2)), 0⟩), ((.s 6), ⟨(.one (iC a3)), 0⟩)]
def sq5__0_1 (a0 : BB) (a1 : RR) (a2 : Int) : Go.Abs.St := [((.s 0), ⟨(.one (sC a0)), 0⟩), ((.s 5), ⟨(.one (lC .own 3 a1)), 0⟩), ((.s 6), ⟨(.one (iC a2)), 0⟩)]
def sqh__0 (a0 : BB) (a1 : Bool) (a2 : RR) (a3 : Int) (a4 : RowT sh11) (a5 : Int) : Go.Abs.St := [((.s 0), ⟨(.one (sC a0)), 0⟩), ((.s 5), ⟨(.one (lC (.im a1) 3 a2)), 0⟩), ((.s 6), ⟨(.one (iC a3)), 0⟩), ((.r (.l 8)), ⟨(.one (iC 3)), 1⟩), ((.b (.l 8) 0), ⟨(.one (iC a4.1)), 0⟩), ((.b (.l 8) 1), ⟨(.one (sC a4.2.1)), 0⟩), ((.b (.l 8) 2), ⟨(.one (iC a4.2.2.1)), 0⟩), ((.s 8), ⟨(.one (.ptr (.l 8) 1 0)), 0⟩), ((.s 10), ⟨(.one (iC a5)), 0⟩)]
def sqh__1 (a0 : BB) (a1 : RR) (a2 : Int) (a3 : RowT sh11) (a4 : Int) : Go.Abs.St := [((.s 0), ⟨(.one (sC a0)), 0⟩), ((.s 5), ⟨(.one (lC .own 3 a1)), 0⟩), ((.s 6), ⟨(.one (iC a2)), 0⟩), ((.r (.l 8)), ⟨(.one (iC 3)), 1⟩), ((.b (.l 8) 0), ⟨(.one (iC a3.1)), 0⟩), ((.b (.l 8) 1), ⟨(.one (sC a3.2.1)), 0⟩), ((.b (.l 8) 2), ⟨(.one (iC a3.2.2.1)), 0⟩), ((.s 8), ⟨(.one (.ptr (.l 8) 1 0)), 0⟩), ((.s 10), ⟨(.one (iC a4)), 0⟩)]
def sqd__0 (a0 : BB) (a1 : Bool) (a2 : RR) (a3 : Int) (a4 : Int) (a5 : RowT sh11) (a6 : Bool) : Go.Abs.St := [((.s 0), ⟨(.one (sC a0)), 0⟩), ((.s 5), ⟨(.one (lC (.im a1) 3 a2)), 0⟩), ((.s 6), ⟨(.one (iC a3)), 0⟩), ((.s 7), ⟨(.one (.d (.int .u8 a4))), 0⟩), ((.r (.l 8)), ⟨(.one (iC 3)), 1⟩), ((.b (.l 8) 0), ⟨(.one (iC a5.1)), 0⟩), ((.b (.l 8) 1), ⟨(.one (sC a5.2.1)), 0⟩), ((.b (.l 8) 2), ⟨(.one (iC a5.2.2.1)), 0⟩), ((.s 8), ⟨(.one (.ptr (.l 8) 1 0)), 0⟩), ((.s 9), ⟨(.one (bC a6)), 0⟩)]
def sqd__1 (a0 : BB) (a1 : RR) (a2 : Int) (a3 : Int) (a4 : RowT sh11) (a5 : Bool) : Go.Abs.St := [((.s 0), ⟨(.one (sC a0)), 0⟩), ((.s 5), ⟨(.one (lC .own 3 a1)), 0⟩), ((.s 6), ⟨(.one (iC a2)), 0⟩), ((.s 7), ⟨(.one (.d (.int .u8 a3))), 0⟩), ((.r (.l 8)), ⟨(.one (iC 3)), 1⟩), ((.b (.l 8) 0), ⟨(.one (iC a4.1)), 0⟩), ((.b (.l 8) 1), ⟨(.one (sC a4.2.1)), 0⟩), ((.b (.l 8) 2), ⟨(.one (iC a4.2.2.1)), 0⟩), ((.s 8), ⟨(.one (.ptr (.l 8) 1 0)), 0⟩), ((.s 9), ⟨(.one (bC a5)), 0⟩)]
inductive Sq5__0 where | s0 (a0 : BB) (a1 : Bool) (a2 : RR) (a3 : Int) | s1 (a0 : BB) (a1 : RR) (a2 : Int)
def Sq5__0.st : Sq5__0 → Go.Abs.St | .s0 a0 a1 a2 a3 => sq5__0_0 a0 a1 a2 a3 | .s1 a0 a1 a2 => sq5__0_1 a0 a1 a2
inductive Sqh_ where | s0 (a0 : BB) (a1 : Bool) (a2 : RR) (a3 : Int) (a4 : RowT sh11) (a5 : Int) | s1 (a0 : BB) (a1 : RR) (a2 : Int) (a3 : RowT sh11) (a4 : Int)
def Sqh_.st : Sqh_ → Go.Abs.St | .s0 a0 a1 a2 a3 a4 a5 => sqh__0 a0 a1 a2 a3 a4 a5 | .s1 a0 a1 a2 a3 a4 => sqh__1 a0 a1 a2 a3 a4
inductive Sqd_ where | s0 (a0 : BB) (a1 : Bool) (a2 : RR) (a3 : Int) (a4 : Int) (a5 : RowT sh11) (a6 : Bool) | s1 (a0 : BB) (a1 : RR) (a2 : Int) (a3 : Int) (a4 : RowT sh11) (a5 : Bool)
def Sqd_.st : Sqd_ → Go.Abs.St | .s0 a0 a1 a2 a3 a4 a5 a6 => sqd__0 a0 a1 a2 a3 a4 a5 a6 | .s1 a0 a1 a2 a3 a4 a5 => sqd__1 a0 a1 a2 a3 a4 a5
def wq5__0_0 (Cl : Oracle) (n : Nat) (H2 : Sqd_ → OR) (a0 : BB) (a1 : Bool) (a2 : RR) (a3 : Int) : OR :=
 (bif (decide (a3 < natI a0.length)) then (qOpt (asI a3) fun o0 => (qOpt (a0[o0]?) fun o1 => (bif (natI o1.toNat == (45 : Int)) then (bif (decide (w64 (a3 + (1 : Int)) < natI a0.length)) then (qOpt (asI (w64 (a3 + (1 : Int)))) fun o2 => (qOpt (a0[o2]?) fun o3 => (tRes rs2 (Cl 22 [(.one (.d (.int .u8 (natI o3.toNat))))] []) fun v4 => (bif (v4.1) then (bif (natI a2.length == (0 : Int)) then (H2 (.s0 a0 a1 a2 a3 (natI o1.toNat) (0, [], a3, ()) true)) else (qOpt (asI (w64 (natI a2.length - (1 : Int)))) fun o5 => (qOpt (a2[o5]?) fun o6 => (gd (decide (3 ≤ o6.length)) (tRow sh11 (List.take 3 o6) fun v7 => (tRes rs2 (Cl 23 [(.agg [(iC (v7.1)), (sC (v7.2.1)), (iC (v7.2.2.1))])] []) fun v8 => (H2 (.s0 a0 a1 a2 a3 (natI o1.toNat) (0, [], a3, ()) (!v8.1))))))))) else (H2 (.s0 a0 a1 a2 a3 (natI o1.toNat) (0, [], a3, ()) false)))))) else (H2 (.s0 a0 a1 a2 a3 (natI o1.toNat) (0, [], a3, ()) false))) else (H2 (.s0 a0 a1 a2 a3 (natI o1.toNat) (0, [], a3, ()) false))))) else (some ((.tup [(.one (lC (.im a1) 3 a2)), (.one (iC 0)), (.one (iC 0))]), [])))
def wq5__0_1 (Cl : Oracle) (n : Nat) (H2 : Sqd_ → OR) (a0 : BB) (a1 : RR) (a2 : Int) : OR :=
 (bif (decide (a2 < natI a0.length)) then (qOpt (asI a2) fun o25 => (qOpt (a0[o25]?) fun o26 => (bif (natI o26.toNat == (45 : Int)) then (bif (decide (w64 (a2 + (1 : Int)) < natI a0.length)) then (qOpt (asI (w64 (a2 + (1 : Int)))) fun o27 => (qOpt (a0[o27]?) fun o28 => (tRes rs2 (Cl 22 [(.one (.d (.int .u8 (natI o28.toNat))))] []) fun v29 => (bif (v29.1) then (bif (natI a1.length == (0 : Int)) then (H2 (.s1 a0 a1 a2 (natI o26.toNat) (0, [], a2, ()) true)) else (qOpt (asI (w64 (natI a1.length - (1 : Int)))) fun o30 => (gd (decide (o30 < a1.length)) (qOpt (a1[0 + o30]?) fun o31 => (gd (decide (0 + 3 ≤ o31.length)) (tRow sh11 (List.take 3 (List.drop 0 o31)) fun v32 => (tRes rs2 (Cl 23 [(.agg [(iC (v32.1)), (sC (v32.2.1)), (iC (v32.2.2.1))])] []) fun v33 => (H2 (.s1 a0 a1 a2 (natI o26.toNat) (0, [], a2, ()) (!v33.1)))))))))) else (H2 (.s1 a0 a1 a2 (natI o26.toNat) (0, [], a2, ()) false)))))) else (H2 (.s1 a0 a1 a2 (natI o26.toNat) (0, [], a2, ()) false))) else (H2 (.s1 a0 a1 a2 (natI o26.toNat) (0, [], a2, ()) false))))) else (gd (decide (0 + a1.length ≤ a1.length)) (some ((.tup [(.one (lC (.im false) 3 (plainRs (whole a1)))), (.one (iC 0)), (.one (iC 0))]), []))))
def wqh__0 (Cl : Oracle) (n : Nat) (H0 : Sq5__0 → OR) (a0 : BB) (a1 : Bool) (a2 : RR) (a3 : Int) (a4 : RowT sh11) (a5 : Int) : OR :=
 (qOpt (asI a3) fun o23 => (qOpt (asI a5) fun o24 => (gd (decide (o23 ≤ o24) && decide (o24 ≤ a0.length)) (gd (a1 && true && true) (H0 (.s1 a0 [[(.int .i64 (a4.1)), (.str (List.take (o24 - o23) (List.drop o23 a0))), (.int .i64 (a4.2.2.1))]] a5))))))
def wqh__1 (Cl : Oracle) (n : Nat) (H0 : Sq5__0 → OR) (a0 : BB) (a1 : RR) (a2 : Int) (a3 : RowT sh11) (a4 : Int) : OR :=
 (qOpt (asI a2) fun o48 => (qOpt (asI a4) fun o49 => (gd (decide (o48 ≤ o49) && decide (o49 ≤ a0.length)) (gd (a1.length == a1.length && true && decide ((a1.length + 1) * 32 ≤ 140737488355328)) (H0 (.s1 a0 (a1 ++ [[D.int .i64 (0 : Int), D.str [], D.int .i64 (0 : Int)]].set 0 [D.int .i64 a3.1, D.str (List.take (o49 - o48) (List.drop o48 a0)), D.int .i64 a3.2.2.1]) a4))))))
def wqd__0 (Cl : Oracle) (n : Nat) (H0 : Sq5__0 → OR) (H1 : Sqh_ → OR) (a0 : BB) (a1 : Bool) (a2 : RR) (a3 : Int) (a4 : Int) (a5 : RowT sh11) (a6 : Bool) : OR :=
 (bif (a4 == (32 : Int)) then (H0 (.s0 a0 a1 a2 (w64 (a3 + (1 : Int))))) else (bif (a4 == (9 : Int)) then (H0 (.s0 a0 a1 a2 (w64 (a3 + (1 : Int))))) else (bif (a4 == (10 : Int)) then (H0 (.s0 a0 a1 a2 (w64 (a3 + (1 : Int))))) else (bif (a4 == (35 : Int)) then (tRes rs12 (Cl 24 [(.one (sC a0)), (.one (iC a3)), (.one (.fn 25 [] []))] []) fun v9 => (H0 (.s0 a0 a1 a2 (v9.1)))) else (tRes rs2 (Cl 26 [(.one (.d (.int .u8 a4)))] []) fun v10 => (bif (v10.1) then (tRes rs12 (Cl 24 [(.one (sC a0)), (.one (iC a3)), (.one (.fn 27 [] []))] []) fun v11 => (H1 (.s0 a0 a1 a2 a3 (0, a5.2) (v11.1)))) else (tRes rs2 (Cl 22 [(.one (.d (.int .u8 a4)))] []) fun v12 => (bif (v12.1) then (tRes rs12 (Cl 24 [(.one (sC a0)), (.one (iC (w64 (a3 + (1 : Int))))), (.one (.fn 22 [] []))] []) fun v13 => (qOpt (asI a3) fun o14 => (qOpt (asI v13.1) fun o15 => (gd (decide (o14 ≤ o15) && decide (o15 ≤ a0.length)) (tRes rs2 (Cl 28 [(.one (sC (List.take (o15 - o14) (List.drop o14 a0))))] []) fun v16 => (bif (!v16.1) then (some ((.tup [(.one (lC (.im true) 3 [])), (.one (iC a3)), (.one (iC 202))]), [])) else (H1 (.s0 a0 a1 a2 a3 (1, a5.2) (v13.1))))))))) else (bif a6 then (tRes rs12 (Cl 24 [(.one (sC a0)), (.one (iC (w64 (a3 + (1 : Int))))), (.one (.fn 22 [] []))] []) fun v17 => (qOpt (asI a3) fun o18 => (qOpt (asI v17.1) fun o19 => (gd (decide (o18 ≤ o19) && decide (o19 ≤ a0.length)) (tRes rs2 (Cl 28 [(.one (sC (List.take (o19 - o18) (List.drop o18 a0))))] []) fun v20 => (bif (!v20.1) then (some ((.tup [(.one (lC (.im true) 3 [])), (.one (iC a3)), (.one (iC 202))]), [])) else (H1 (.s0 a0 a1 a2 a3 (1, a5.2) (v17.1))))))))) else (bif (a4 == (34 : Int)) then (tRes rs14 (Cl 29 [(.one (sC a0)), (.one (iC a3))] []) fun v21 => (bif (!v21.1.2.2.1) then (some ((.tup [(.one (lC (.im true) 3 [])), (.one (iC a3)), (.one (iC 203))]), [])) else (gd (a1 && true && true) (H0 (.s1 a0 [[(.int .i64 2), (.str (v21.1.1)), (.int .i64 (a5.2.2.1))]] (v21.1.2.1)))))) else (tRes rs0 (Cl 30 [(.one (sC a0)), (.one (iC a3))] []) fun v22 => (bif (v22.1 == []) then (some ((.tup [(.one (lC (.im true) 3 [])), (.one (iC a3)), (.one (iC 201))]), [])) else (H1 (.s0 a0 a1 a2 a3 (3, a5.2) (w64 (a3 + natI (List.length v22.1)))))))))))))))))
def wqd__1 (Cl : Oracle) (n : Nat) (H0 : Sq5__0 → OR) (H1 : Sqh_ → OR) (a0 : BB) (a1 : RR) (a2 : Int) (a3 : Int) (a4 : RowT sh11) (a5 : Bool) : OR :=
 (bif (a3 == (32 : Int)) then (H0 (.s1 a0 a1 (w64 (a2 + (1 : Int))))) else (bif (a3 == (9 : Int)) then (H0 (.s1 a0 a1 (w64 (a2 + (1 : Int))))) else (bif (a3 == (10 : Int)) then (H0 (.s1 a0 a1 (w64 (a2 + (1 : Int))))) else (bif (a3 == (35 : Int)) then (tRes rs12 (Cl 24 [(.one (sC a0)), (.one (iC a2)), (.one (.fn 25 [] []))] []) fun v34 => (H0 (.s1 a0 a1 (v34.1)))) else (tRes rs2 (Cl 26 [(.one (.d (.int .u8 a3)))] []) fun v35 => (bif (v35.1) then (tRes rs12 (Cl 24 [(.one (sC a0)), (.one (iC a2)), (.one (.fn 27 [] []))] []) fun v36 => (H1 (.s1 a0 a1 a2 (0, a4.2) (v36.1)))) else (tRes rs2 (Cl 22 [(.one (.d (.int .u8 a3)))] []) fun v37 => (bif (v37.1) then (tRes rs12 (Cl 24 [(.one (sC a0)), (.one (iC (w64 (a2 + (1 : Int))))), (.one (.fn 22 [] []))] []) fun v38 => (qOpt (asI a2) fun o39 => (qOpt (asI v38.1) fun o40 => (gd (decide (o39 ≤ o40) && decide (o40 ≤ a0.length)) (tRes rs2 (Cl 28 [(.one (sC (List.take (o40 - o39) (List.drop o39 a0))))] []) fun v41 => (bif (!v41.1) then (some ((.tup [(.one (lC (.im true) 3 [])), (.one (iC a2)), (.one (iC 202))]), [])) else (H1 (.s1 a0 a1 a2 (1, a4.2) (v38.1))))))))) else (bif a5 then (tRes rs12 (Cl 24 [(.one (sC a0)), (.one (iC (w64 (a2 + (1 : Int))))), (.one (.fn 22 [] []))] []) fun v42 => (qOpt (asI a2) fun o43 => (qOpt (asI v42.1) fun o44 => (gd (decide (o43 ≤ o44) && decide (o44 ≤ a0.length)) (tRes rs2 (Cl 28 [(.one (sC (List.take (o44 - o43) (List.drop o43 a0))))] []) fun v45 => (bif (!v45.1) then (some ((.tup [(.one (lC (.im true) 3 [])), (.one (iC a2)), (.one (iC 202))]), [])) else (H1 (.s1 a0 a1 a2 (1, a4.2) (v42.1))))))))) else (bif (a3 == (34 : Int)) then (tRes rs14 (Cl 29 [(.one (sC a0)), (.one (iC a2))] []) fun v46 => (bif (!v46.1.2.2.1) then (some ((.tup [(.one (lC (.im true) 3 [])), (.one (iC a2)), (.one (iC 203))]), [])) else (gd (a1.length == a1.length && true && decide ((a1.length + 1) * 32 ≤ 140737488355328)) (H0 (.s1 a0 (a1 ++ [[D.int .i64 (0 : Int), D.str [], D.int .i64 (0 : Int)]].set 0 [D.int .i64 (2 : Int), D.str v46.1.1, D.int .i64 a4.2.2.1]) (v46.1.2.1)))))) else (tRes rs0 (Cl 30 [(.one (sC a0)), (.one (iC a2))] []) fun v47 => (bif (v47.1 == []) then (some ((.tup [(.one (lC (.im true) 3 [])), (.one (iC a2)), (.one (iC 201))]), [])) else (H1 (.s1 a0 a1 a2 (3, a4.2) (w64 (a2 + natI (List.length v47.1)))))))))))))))))
def lqh_ (Cl : Oracle) (n : Nat) (H0 : Sq5__0 → OR) (m : Nat) : Sqh_ → OR := Nat.rec (fun _ => none) (fun _ ih s => match s with | .s0 a0 a1 a2 a3 a4 a5 => wqh__0 Cl n H0 a0 a1 a2 a3 a4 a5 | .s1 a0 a1 a2 a3 a4 => wqh__1 Cl n H0 a0 a1 a2 a3 a4) m
theorem hlqh_ (Cl : Oracle) (n : Nat) (m0 : Nat) : ∀ (m : Nat) (s : Sqh_), h11_1 Cl n [] m0 m s.st = lqh_ Cl n (fun s => h11_0 Cl n [] m0 s.st) m s := by
 intro m
 induction m with
 | zero => intro s; kernel_rfl
 | succ m ih =>
  intro s
  cases s with
  | s0 a0 a1 a2 a3 a4 a5 =>
   have h : h11_1 Cl n [] m0 (m + 1) (sqh__0 a0 a1 a2 a3 a4 a5) = wqh__0 Cl n (fun s => h11_0 Cl n [] m0 s.st) a0 a1 a2 a3 a4 a5 := by kernel_rfl
   exact h
  | s1 a0 a1 a2 a3 a4 =>
   have h : h11_1 Cl n [] m0 (m + 1) (sqh__1 a0 a1 a2 a3 a4) = wqh__1 Cl n (fun s => h11_0 Cl n [] m0 s.st) a0 a1 a2 a3 a4 := by kernel_rfl
   exact h
def lqd_ (Cl : Oracle) (n : Nat) (H0 : Sq5__0 → OR) (m : Nat) : Sqd_ → OR := Nat.rec (fun _ => none) (fun _ ih s => match s with | .s0 a0 a1 a2 a3 a4 a5 a6 => wqd__0 Cl n H0 (lqh_ Cl n H0 n) a0 a1 a2 a3 a4 a5 a6 | .s1 a0 a1 a2 a3 a4 a5 => wqd__1 Cl n H0 (lqh_ Cl n H0 n) a0 a1 a2 a3 a4 a5) m
theorem hlqd_ (Cl : Oracle) (n : Nat) (m0 : Nat) : ∀ (m : Nat) (s : Sqd_), h11_2 Cl n [] m0 m s.st = lqd_ Cl n (fun s => h11_0 Cl n [] m0 s.st) m s := by
 intro m
 induction m with
 | zero => intro s; kernel_rfl
 | succ m ih =>
  intro s
  have e1 : (fun s => h11_1 Cl n [] m0 n s.st) = lqh_ Cl n (fun s => h11_0 Cl n [] m0 s.st) n := funext (hlqh_ Cl n m0 n)
  cases s with
  | s0 a0 a1 a2 a3 a4 a5 a6 =>
   have h : h11_2 Cl n [] m0 (m + 1) (sqd__0 a0 a1 a2 a3 a4 a5 a6) = wqd__0 Cl n (fun s => h11_0 Cl n [] m0 s.st) (fun s => h11_1 Cl n [] m0 n s.st) a0 a1 a2 a3 a4 a5 a6 := by kernel_rfl
   rw [e1] at h
   exact h
  | s1 a0 a1 a2 a3 a4 a5 =>
   have h : h11_2 Cl n [] m0 (m + 1) (sqd__1 a0 a1 a2 a3 a4 a5) = wqd__1 Cl n (fun s => h11_0 Cl n [] m0 s.st) (fun s => h11_1 Cl n [] m0 n s.st) a0 a1 a2 a3 a4 a5 := by kernel_rfl
   rw [e1] at h
   exact h
def lq5__0 (Cl : Oracle) (n : Nat) (m : Nat) : Sq5__0 → OR := Nat.rec (fun _ => none) (fun _ ih s => match s with | .s0 a0 a1 a2 a3 => wq5__0_0 Cl n (lqd_ Cl n ih n) a0 a1 a2 a3 | .s1 a0 a1 a2 => wq5__0_1 Cl n (lqd_ Cl n ih n) a0 a1 a2) m
theorem hlq5__0 (Cl : Oracle) (n : Nat) : ∀ (m : Nat) (s : Sq5__0), h11_0 Cl n [] m s.st = lq5__0 Cl n m s := by
 intro m
 induction m with
 | zero => intro s; kernel_rfl
 | succ m ih =>
  intro s
  have e0 : (fun s => h11_0 Cl n [] m s.st) = lq5__0 Cl n m := funext ih
  have e2 : (fun s => h11_2 Cl n [] m n s.st) = lqd_ Cl n (fun s => h11_0 Cl n [] m s.st) n := funext (hlqd_ Cl n m n)
  cases s with
  | s0 a0 a1 a2 a3 =>
   have h : h11_0 Cl n [] (m + 1) (sq5__0_0 a0 a1 a2 a3) = wq5__0_0 Cl n (fun s => h11_2 Cl n [] m n s.st) a0 a1 a2 a3 := by kernel_rfl
   rw [e2, e0] at h
   exact h
  | s1 a0 a1 a2 =>
   have h : h11_0 Cl n [] (m + 1) (sq5__0_1 a0 a1 a2) = wq5__0_1 Cl n (fun s => h11_2 Cl n [] m n s.st) a0 a1 a2 := by kernel_rfl
   rw [e2, e0] at h
   exact h
def ttq5_ (Cl : Oracle) (n : Nat) (H0 : Sq5__0 → OR) (x0 : BB) : OR :=
 (bif (decide (natI x0.length > (16384 : Int))) then (some ((.tup [(.one (lC (.im true) 3 [])), (.one (iC 0)), (.one (iC 200))]), [])) else (H0 (.s0 x0 true [] 0)))
def tq5_ (Cl : Oracle) (n : Nat) (x0 : BB) : OR := ttq5_ Cl n (lq5__0 Cl n n) x0
theorem ptq5_ (Cl : Oracle) (n : Nat) (x0 : BB) : evBodyA an11 Cl n k11 [(.one (sC x0))] [] = tq5_ Cl n x0 := by
 have h : evBodyA an11 Cl n k11 [(.one (sC x0))] [] = ttq5_ Cl n (fun s => h11_0 Cl n [] n s.st) x0 := by kernel_rfl
 have e0 : (fun s => h11_0 Cl n [] n s.st) = lq5__0 Cl n n := funext (hlq5__0 Cl n n)
 rw [e0] at h
 exact h
def tqs_ (Cl : Oracle) (n : Nat) (x0 : RowT sh7) : OR :=
 (tRes rs6 (Cl 18 [pE] [(bx sh7 x0)]) fun v0 => (bif (!v0.1) then (some ((.one (bC (decide (v0.2.1.2.1 < natI v0.2.1.1.2.length)))), [(bx sh7 (v0.2.1))])) else (some ((.one (bC false)), [(bx sh7 (v0.2.1))]))))
theorem ptqs_ (Cl : Oracle) (n : Nat) (x0 : RowT sh7) : evBodyA an12 Cl n k12 [pE] [(bx sh7 x0)] = tqs_ Cl n x0 := by kernel_rfl
def tqp_ (Cl : Oracle) (n : Nat) (x0 : BB) (x1 : RowT sh7) : OR :=
 (tRes rs6 (Cl 31 [pE, (.one (sC x0))] [(bx sh7 x1)]) fun v0 => (bif (!v0.1) then (some ((.one (bC false)), [(bx sh7 (v0.2.1))])) else (some ((.one (bC true)), [(bx sh7 (v0.2.1.1, (w64 (v0.2.1.2.1 + (1 : Int))), v0.2.1.2.2))]))))
theorem ptqp_ (Cl : Oracle) (n : Nat) (x0 : BB) (x1 : RowT sh7) : evBodyA an13 Cl n k13 [pE, (.one (sC x0))] [(bx sh7 x1)] = tqp_ Cl n x0 x1 := by kernel_rfl
def sq0__0_0 (a0 : RowT sh7) (a1 : RowT sh12) : Go.Abs.St := [((.s 0), ⟨pE, 0⟩), ((.r (.e 0)), ⟨(.one (iC 8)), 0⟩), ((.b (.e 0) 0), ⟨(.one (lC (.im a0.1.1) 3 a0.1.2)), 0⟩), ((.b (.e 0) 1), ⟨(.one (iC a0.2.1)), 0⟩), ((.b (.e 0) 2), ⟨(.one (iC a0.2.2.1)), 0⟩), ((.b (.e 0) 3), ⟨(.one (iC a0.2.2.2.1)), 0⟩), ((.b (.e 0) 4), ⟨(.one (sC a0.2.2.2.2.1)), 0⟩), ((.b (.e 0) 5), ⟨(.one (lC a0.2.2.2.2.2.1.1 3 a0.2.2.2.2.2.1.2)), 0⟩), ((.b (.e 0) 6), ⟨(.one (lC a0.2.2.2.2.2.2.1.1 6 a0.2.2.2.2.2.2.1.2)), 0⟩), ((.b (.e 0) 7), ⟨(.one (lC a0.2.2.2.2.2.2.2.1.1 10 a0.2.2.2.2.2.2.2.1.2)), 0⟩), ((.r (.l 2)), ⟨(.one (iC 4)), 1⟩), ((.b (.l 2) 0), ⟨(.one (sC a1.1)), 0⟩), ((.b (.l 2) 1), ⟨(.one (lC a1.2.1.1 3 a1.2.1.2)), 0⟩), ((.b (.l 2) 2), ⟨(.one (lC a1.2.2.1.1 6 a1.2.2.1.2)), 0⟩), ((.b (.l 2) 3), ⟨(.one (lC a1.2.2.2.1.1 10 a1.2.2.2.1.2)), 0⟩), ((.s 2), ⟨(.one (.ptr (.l 2) 1 0)), 0⟩)]
def sq0__1_0 (a0 : RowT sh7) (a1 : RowT sh12) (a2 : RowT sh13) : Go.Abs.St := [((.s 0), ⟨pE, 0⟩), ((.r (.e 0)), ⟨(.one (iC 8)), 0⟩), ((.b (.e 0) 0), ⟨(.one (lC (.im a0.1.1) 3 a0.1.2)), 0⟩), ((.b (.e 0) 1), ⟨(.one (iC a0.2.1)), 0⟩), ((.b (.e 0) 2), ⟨(.one (iC a0.2.2.1)), 0⟩), ((.b (.e 0) 3), ⟨(.one (iC a0.2.2.2.1)), 0⟩), ((.b (.e 0) 4), ⟨(.one (sC a0.2.2.2.2.1)), 0⟩), ((.b (.e 0) 5), ⟨(.one (lC a0.2.2.2.2.2.1.1 3 a0.2.2.2.2.2.1.2)), 0⟩), ((.b (.e 0) 6), ⟨(.one (lC a0.2.2.2.2.2.2.1.1 6 a0.2.2.2.2.2.2.1.2)), 0⟩), ((.b (.e 0) 7), ⟨(.one (lC a0.2.2.2.2.2.2.2.1.1 10 a0.2.2.2.2.2.2.2.1.2)), 0⟩), ((.r (.l 2)), ⟨(.one (iC 4)), 1⟩), ((.b (.l 2) 0), ⟨(.one (sC a1.1)), 0⟩), ((.b (.l 2) 1), ⟨(.one (lC a1.2.1.1 3 a1.2.1.2)), 0⟩), ((.b (.l 2) 2), ⟨(.one (lC a1.2.2.1.1 6 a1.2.2.1.2)), 0⟩), ((.b (.l 2) 3), ⟨(.one (lC a1.2.2.2.1.1 10 a1.2.2.2.1.2)), 0⟩), ((.s 2), ⟨(.one (.ptr (.l 2) 1 0)), 0⟩), ((.r (.l 3)), ⟨(.one (iC 3)), 1⟩), ((.b (.l 3) 0), ⟨(.one (sC a2.1)), 0⟩), ((.b (.l 3) 1), ⟨(.one (iC a2.2.1)), 0⟩), ((.b (.l 3) 2), ⟨(.one (sC a2.2.2.1)), 0⟩)]
def sq0__2_0 (a0 : RowT sh7) (a1 : RowT sh12) : Go.Abs.St := [((.s 0), ⟨pE, 0⟩), ((.r (.e 0)), ⟨(.one (iC 8)), 0⟩), ((.b (.e 0) 0), ⟨(.one (lC (.im a0.1.1) 3 a0.1.2)), 0⟩), ((.b (.e 0) 1), ⟨(.one (iC a0.2.1)), 0⟩), ((.b (.e 0) 2), ⟨(.one (iC a0.2.2.1)), 0⟩), ((.b (.e 0) 3), ⟨(.one (iC a0.2.2.2.1)), 0⟩), ((.b (.e 0) 4), ⟨(.one (sC a0.2.2.2.2.1)), 0⟩), ((.b (.e 0) 5), ⟨(.one (lC a0.2.2.2.2.2.1.1 3 a0.2.2.2.2.2.1.2)), 0⟩), ((.b (.e 0) 6), ⟨(.one (lC a0.2.2.2.2.2.2.1.1 6 a0.2.2.2.2.2.2.1.2)), 0⟩), ((.b (.e 0) 7), ⟨(.one (lC a0.2.2.2.2.2.2.2.1.1 10 a0.2.2.2.2.2.2.2.1.2)), 0⟩), ((.r (.l 2)), ⟨(.one (iC 4)), 1⟩), ((.b (.l 2) 0), ⟨(.one (sC a1.1)), 0⟩), ((.b (.l 2) 1), ⟨(.one (lC a1.2.1.1 3 a1.2.1.2)), 0⟩), ((.b (.l 2) 2), ⟨(.one (lC a1.2.2.1.1 6 a1.2.2.1.2)), 0⟩), ((.b (.l 2) 3), ⟨(.one (lC a1.2.2.2.1.1 10 a1.2.2.2.1.2)), 0⟩), ((.s 2), ⟨(.one (.ptr (.l 2) 1 0)), 0⟩)]
def sq0__3_0 (a0 : RowT sh7) (a1 : RowT sh12) : Go.Abs.St := [((.s 0), ⟨pE, 0⟩), ((.r (.e 0)), ⟨(.one (iC 8)), 0⟩), ((.b (.e 0) 0), ⟨(.one (lC (.im a0.1.1) 3 a0.1.2)), 0⟩), ((.b (.e 0) 1), ⟨(.one (iC a0.2.1)), 0⟩), ((.b (.e 0) 2), ⟨(.one (iC a0.2.2.1)), 0⟩), ((.b (.e 0) 3), ⟨(.one (iC a0.2.2.2.1)), 0⟩), ((.b (.e 0) 4), ⟨(.one (sC a0.2.2.2.2.1)), 0⟩), ((.b (.e 0) 5), ⟨(.one (lC a0.2.2.2.2.2.1.1 3 a0.2.2.2.2.2.1.2)), 0⟩), ((.b (.e 0) 6), ⟨(.one (lC a0.2.2.2.2.2.2.1.1 6 a0.2.2.2.2.2.2.1.2)), 0⟩), ((.b (.e 0) 7), ⟨(.one (lC a0.2.2.2.2.2.2.2.1.1 10 a0.2.2.2.2.2.2.2.1.2)), 0⟩), ((.r (.l 2)), ⟨(.one (iC 4)), 1⟩), ((.b (.l 2) 0), ⟨(.one (sC a1.1)), 0⟩), ((.b (.l 2) 1), ⟨(.one (lC a1.2.1.1 3 a1.2.1.2)), 0⟩), ((.b (.l 2) 2), ⟨(.one (lC a1.2.2.1.1 6 a1.2.2.1.2)), 0⟩), ((.b (.l 2) 3), ⟨(.one (lC a1.2.2.2.1.1 10 a1.2.2.2.1.2)), 0⟩), ((.s 2), ⟨(.one (.ptr (.l 2) 1 0)), 0⟩)]
def sq0__3_1 (a0 : RowT sh7) (a1 : RowT sh12) (a2 : RowT sh13) : Go.Abs.St := [((.s 0), ⟨pE, 0⟩), ((.r (.e 0)), ⟨(.one (iC 8)), 0⟩), ((.b (.e 0) 0), ⟨(.one (lC (.im a0.1.1) 3 a0.1.2)), 0⟩), ((.b (.e 0) 1), ⟨(.one (iC a0.2.1)), 0⟩), ((.b (.e 0) 2), ⟨(.one (iC a0.2.2.1)), 0⟩), ((.b (.e 0) 3), ⟨(.one (iC a0.2.2.2.1)), 0⟩), ((.b (.e 0) 4), ⟨(.one (sC a0.2.2.2.2.1)), 0⟩), ((.b (.e 0) 5), ⟨(.one (lC a0.2.2.2.2.2.1.1 3 a0.2.2.2.2.2.1.2)), 0⟩), ((.b (.e 0) 6), ⟨(.one (lC a0.2.2.2.2.2.2.1.1 6 a0.2.2.2.2.2.2.1.2)), 0⟩), ((.b (.e 0) 7), ⟨(.one (lC a0.2.2.2.2.2.2.2.1.1 10 a0.2.2.2.2.2.2.2.1.2)), 0⟩), ((.r (.l 2)), ⟨(.one (iC 4)), 1⟩), ((.b (.l 2) 0), ⟨(.one (sC a1.1)), 0⟩), ((.b (.l 2) 1), ⟨(.one (lC a1.2.1.1 3 a1.2.1.2)), 0⟩), ((.b (.l 2) 2), ⟨(.one (lC a1.2.2.1.1 6 a1.2.2.1.2)), 0⟩), ((.b (.l 2) 3), ⟨(.one (lC a1.2.2.2.1.1 10 a1.2.2.2.1.2)), 0⟩), ((.s 2), ⟨(.one (.ptr (.l 2) 1 0)), 0⟩), ((.r (.l 3)), ⟨(.one (iC 3)), 1⟩), ((.b (.l 3) 0), ⟨(.one (sC a2.1)), 0⟩), ((.b (.l 3) 1), ⟨(.one (iC a2.2.1)), 0⟩), ((.b (.l 3) 2), ⟨(.one (sC a2.2.2.1)), 0⟩)]
inductive Sq0__0 where | s0 (a0 : RowT sh7) (a1 : RowT sh12)
def Sq0__0.st : Sq0__0 → Go.Abs.St | .s0 a0 a1 => sq0__0_0 a0 a1
inductive Sq0__1 where | s0 (a0 : RowT sh7) (a1 : RowT sh12) (a2 : RowT sh13)
def Sq0__1.st : Sq0__1 → Go.Abs.St | .s0 a0 a1 a2 => sq0__1_0 a0 a1 a2
inductive Sq0__2 where | s0 (a0 : RowT sh7) (a1 : RowT sh12)
def Sq0__2.st : Sq0__2 → Go.Abs.St | .s0 a0 a1 => sq0__2_0 a0 a1
inductive Sq0__3 where | s0 (a0 : RowT sh7) (a1 : RowT sh12) | s1 (a0 : RowT sh7) (a1 : RowT sh12) (a2 : RowT sh13)
def Sq0__3.st : Sq0__3 → Go.Abs.St | .s0 a0 a1 => sq0__3_0 a0 a1 | .s1 a0 a1 a2 => sq0__3_1 a0 a1 a2
def wq0__0_0 (Cl : Oracle) (n : Nat) (x0 : RowT sh7) (H2 : Sq0__2 → OR) (H3 : Sq0__3 → OR) (a0 : RowT sh7) (a1 : RowT sh12) : OR :=
 (tRes rs6 (Cl 18 [pE] [(bx sh7 a0)]) fun v2 => (bif (!v2.1) then (tRes rs6 (Cl 31 [pE, (.one (sC [41]))] [(bx sh7 (v2.2.1))]) fun v3 => (bif (!v3.1) then (H2 (.s0 (v3.2.1) a1)) else (H3 (.s0 (v3.2.1) a1)))) else (H3 (.s0 (v2.2.1) a1))))
def wq0__1_0 (Cl : Oracle) (n : Nat) (x0 : RowT sh7) (H0 : Sq0__0 → OR) (H3 : Sq0__3 → OR) (a0 : RowT sh7) (a1 : RowT sh12) (a2 : RowT sh13) : OR :=
 (tRes rs6 (Cl 13 [pE, (.one (sC [44]))] [(bx sh7 a0)]) fun v17 => (bif (!v17.1) then (H3 (.s1 (v17.2.1) a1 a2)) else (tRes rs6 (Cl 31 [pE, (.one (sC [41]))] [(bx sh7 (v17.2.1))]) fun v18 => (bif (v18.1) then (tRes rs10 (Cl 17 [pE] [(bx sh7 (v18.2.1))]) fun v19 => (H0 (.s0 (v19.2.1) a1))) else (H0 (.s0 (v18.2.1) a1))))))
def wq0__2_0 (Cl : Oracle) (n : Nat) (x0 : RowT sh7) (H1 : Sq0__1 → OR) (a0 : RowT sh7) (a1 : RowT sh12) : OR :=
 (tRes rs15 (Cl 32 [pE] [(bx sh7 a0)]) fun v4 => (tRes rs10 (Cl 33 [pE, (.one (sC [58]))] [(bx sh7 (v4.2.1))]) fun v5 => (tRes rs16 (Cl 36 [pE] [(bx sh7 (v5.2.1))]) fun v6 => (tagI (v6.2.1.2.2.2.2.2.1.1) (fun b7 => (gd (b7 && true && true) (H1 (.s0 (v6.2.1.1, (v6.2.1.2.1), (v6.2.1.2.2.1), (v6.2.1.2.2.2.1), (v6.2.1.2.2.2.2.1), (.own, [[(.str (v4.1)), (.int .i64 (v6.1.1)), (.str (v6.1.2.1))]]), v6.2.1.2.2.2.2.2.2) a1 ((v4.1), v6.1))))) (gd (v6.2.1.2.2.2.2.2.1.2.length == v6.2.1.2.2.2.2.2.1.2.length && true && decide ((v6.2.1.2.2.2.2.2.1.2.length + 1) * 40 ≤ 140737488355328)) (H1 (.s0 (v6.2.1.1, (v6.2.1.2.1), (v6.2.1.2.2.1), (v6.2.1.2.2.2.1), (v6.2.1.2.2.2.2.1), (.own, (v6.2.1.2.2.2.2.2.1.2 ++ [[D.str [], D.int .i64 (0 : Int), D.str []]].set 0 [D.str v4.1, D.int .i64 v6.1.1, D.str v6.1.2.1])), v6.2.1.2.2.2.2.2.2) a1 ((v4.1), v6.1))))))))
def wq0__3_0 (Cl : Oracle) (n : Nat) (x0 : RowT sh7) (a0 : RowT sh7) (a1 : RowT sh12) : OR :=
 (tRes rs10 (Cl 33 [pE, (.one (sC [41]))] [(bx sh7 a0)]) fun v8 => (tRes rs17 (Cl 37 [pE] [(bx sh7 (v8.2.1))]) fun v9 => (tagI (v9.2.1.2.2.2.2.2.1.1) (fun b10 => (tagI (v9.2.1.2.2.2.2.2.2.1.1) (fun b11 => (tagI (v9.2.1.2.2.2.2.2.2.2.1.1) (fun b12 => (some ((.agg [(sC (v9.2.1.2.2.2.2.1)), (lC (.im b10) 3 (v9.2.1.2.2.2.2.2.1.2)), (lC (.im b11) 6 (v9.2.1.2.2.2.2.2.2.1.2)), (lC (.im b12) 10 (v9.2.1.2.2.2.2.2.2.2.1.2))]), [(bx sh7 (v9.2.1.1, (v9.2.1.2.1), (v9.2.1.2.2.1), (v9.2.1.2.2.2.1), (v9.2.1.2.2.2.2.1), ((.im b10), (v9.2.1.2.2.2.2.2.1.2)), ((.im b11), (v9.2.1.2.2.2.2.2.2.1.2)), ((.im b12), (v9.2.1.2.2.2.2.2.2.2.1.2)), ()))]))) (gd (decide (0 + v9.2.1.2.2.2.2.2.2.2.1.2.length ≤ v9.2.1.2.2.2.2.2.2.2.1.2.length)) (some ((.agg [(sC (v9.2.1.2.2.2.2.1)), (lC (.im b10) 3 (v9.2.1.2.2.2.2.2.1.2)), (lC (.im b11) 6 (v9.2.1.2.2.2.2.2.2.1.2)), (lC (.im false) 10 (plainRs (whole v9.2.1.2.2.2.2.2.2.2.1.2)))]), [(bx sh7 (v9.2.1.1, (v9.2.1.2.1), (v9.2.1.2.2.1), (v9.2.1.2.2.2.1), (v9.2.1.2.2.2.2.1), ((.im b10), (v9.2.1.2.2.2.2.2.1.2)), ((.im b11), (v9.2.1.2.2.2.2.2.2.1.2)), ((.im false), (plainRs v9.2.1.2.2.2.2.2.2.2.1.2)), ()))]))))) (tagI (v9.2.1.2.2.2.2.2.2.2.1.1) (fun b13 => (gd (decide (0 + v9.2.1.2.2.2.2.2.2.1.2.length ≤ v9.2.1.2.2.2.2.2.2.1.2.length)) (some ((.agg [(sC (v9.2.1.2.2.2.2.1)), (lC (.im b10) 3 (v9.2.1.2.2.2.2.2.1.2)), (lC (.im false) 6 (plainRs (whole v9.2.1.2.2.2.2.2.2.1.2))), (lC (.im b13) 10 (v9.2.1.2.2.2.2.2.2.2.1.2))]), [(bx sh7 (v9.2.1.1, (v9.2.1.2.1), (v9.2.1.2.2.1), (v9.2.1.2.2.2.1), (v9.2.1.2.2.2.2.1), ((.im b10), (v9.2.1.2.2.2.2.2.1.2)), ((.im false), (plainRs v9.2.1.2.2.2.2.2.2.1.2)), ((.im b13), (v9.2.1.2.2.2.2.2.2.2.1.2)), ()))])))) (gd (decide (0 + v9.2.1.2.2.2.2.2.2.1.2.length ≤ v9.2.1.2.2.2.2.2.2.1.2.length)) (gd (decide (0 + v9.2.1.2.2.2.2.2.2.2.1.2.length ≤ v9.2.1.2.2.2.2.2.2.2.1.2.length)) (some ((.agg [(sC (v9.2.1.2.2.2.2.1)), (lC (.im b10) 3 (v9.2.1.2.2.2.2.2.1.2)), (lC (.im false) 6 (plainRs (whole v9.2.1.2.2.2.2.2.2.1.2))), (lC (.im false) 10 (plainRs (whole v9.2.1.2.2.2.2.2.2.2.1.2)))]), [(bx sh7 (v9.2.1.1, (v9.2.1.2.1), (v9.2.1.2.2.1), (v9.2.1.2.2.2.1), (v9.2.1.2.2.2.2.1), ((.im b10), (v9.2.1.2.2.2.2.2.1.2)), ((.im false), (plainRs v9.2.1.2.2.2.2.2.2.1.2)), ((.im false), (plainRs v9.2.1.2.2.2.2.2.2.2.1.2)), ()))]))))))) (tagI (v9.2.1.2.2.2.2.2.2.1.1) (fun b14 => (tagI (v9.2.1.2.2.2.2.2.2.2.1.1) (fun b15 => (gd (decide (0 + v9.2.1.2.2.2.2.2.1.2.length ≤ v9.2.1.2.2.2.2.2.1.2.length)) (some ((.agg [(sC (v9.2.1.2.2.2.2.1)), (lC (.im false) 3 (plainRs (whole v9.2.1.2.2.2.2.2.1.2))), (lC (.im b14) 6 (v9.2.1.2.2.2.2.2.2.1.2)), (lC (.im b15) 10 (v9.2.1.2.2.2.2.2.2.2.1.2))]), [(bx sh7 (v9.2.1.1, (v9.2.1.2.1), (v9.2.1.2.2.1), (v9.2.1.2.2.2.1), (v9.2.1.2.2.2.2.1), ((.im false), (plainRs v9.2.1.2.2.2.2.2.1.2)), ((.im b14), (v9.2.1.2.2.2.2.2.2.1.2)), ((.im b15), (v9.2.1.2.2.2.2.2.2.2.1.2)), ()))])))) (gd (decide (0 + v9.2.1.2.2.2.2.2.1.2.length ≤ v9.2.1.2.2.2.2.2.1.2.length)) (gd (decide (0 + v9.2.1.2.2.2.2.2.2.2.1.2.length ≤ v9.2.1.2.2.2.2.2.2.2.1.2.length)) (some ((.agg [(sC (v9.2.1.2.2.2.2.1)), (lC (.im false) 3 (plainRs (whole v9.2.1.2.2.2.2.2.1.2))), (lC (.im b14) 6 (v9.2.1.2.2.2.2.2.2.1.2)), (lC (.im false) 10 (plainRs (whole v9.2.1.2.2.2.2.2.2.2.1.2)))]), [(bx sh7 (v9.2.1.1, (v9.2.1.2.1), (v9.2.1.2.2.1), (v9.2.1.2.2.2.1), (v9.2.1.2.2.2.2.1), ((.im false), (plainRs v9.2.1.2.2.2.2.2.1.2)), ((.im b14), (v9.2.1.2.2.2.2.2.2.1.2)), ((.im false), (plainRs v9.2.1.2.2.2.2.2.2.2.1.2)), ()))])))))) (tagI (v9.2.1.2.2.2.2.2.2.2.1.1) (fun b16 => (gd (decide (0 + v9.2.1.2.2.2.2.2.1.2.length ≤ v9.2.1.2.2.2.2.2.1.2.length)) (gd (decide (0 + v9.2.1.2.2.2.2.2.2.1.2.length ≤ v9.2.1.2.2.2.2.2.2.1.2.length)) (some ((.agg [(sC (v9.2.1.2.2.2.2.1)), (lC (.im false) 3 (plainRs (whole v9.2.1.2.2.2.2.2.1.2))), (lC (.im false) 6 (plainRs (whole v9.2.1.2.2.2.2.2.2.1.2))), (lC (.im b16) 10 (v9.2.1.2.2.2.2.2.2.2.1.2))]), [(bx sh7 (v9.2.1.1, (v9.2.1.2.1), (v9.2.1.2.2.1), (v9.2.1.2.2.2.1), (v9.2.1.2.2.2.2.1), ((.im false), (plainRs v9.2.1.2.2.2.2.2.1.2)), ((.im false), (plainRs v9.2.1.2.2.2.2.2.2.1.2)), ((.im b16), (v9.2.1.2.2.2.2.2.2.2.1.2)), ()))]))))) (gd (decide (0 + v9.2.1.2.2.2.2.2.1.2.length ≤ v9.2.1.2.2.2.2.2.1.2.length)) (gd (decide (0 + v9.2.1.2.2.2.2.2.2.1.2.length ≤ v9.2.1.2.2.2.2.2.2.1.2.length)) (gd (decide (0 + v9.2.1.2.2.2.2.2.2.2.1.2.length ≤ v9.2.1.2.2.2.2.2.2.2.1.2.length)) (some ((.agg [(sC (v9.2.1.2.2.2.2.1)), (lC (.im false) 3 (plainRs (whole v9.2.1.2.2.2.2.2.1.2))), (lC (.im false) 6 (plainRs (whole v9.2.1.2.2.2.2.2.2.1.2))), (lC (.im false) 10 (plainRs (whole v9.2.1.2.2.2.2.2.2.2.1.2)))]), [(bx sh7 (v9.2.1.1, (v9.2.1.2.1), (v9.2.1.2.2.1), (v9.2.1.2.2.2.1), (v9.2.1.2.2.2.2.1), ((.im false), (plainRs v9.2.1.2.2.2.2.2.1.2)), ((.im false), (plainRs v9.2.1.2.2.2.2.2.2.1.2)), ((.im false), (plainRs v9.2.1.2.2.2.2.2.2.2.1.2)), ()))]))))))))))
def wq0__3_1 (Cl : Oracle) (n : Nat) (x0 : RowT sh7) (a0 : RowT sh7) (a1 : RowT sh12) (a2 : RowT sh13) : OR :=
 (tRes rs10 (Cl 33 [pE, (.one (sC [41]))] [(bx sh7 a0)]) fun v20 => (tRes rs17 (Cl 37 [pE] [(bx sh7 (v20.2.1))]) fun v21 => (tagI (v21.2.1.2.2.2.2.2.1.1) (fun b22 => (tagI (v21.2.1.2.2.2.2.2.2.1.1) (fun b23 => (tagI (v21.2.1.2.2.2.2.2.2.2.1.1) (fun b24 => (some ((.agg [(sC (v21.2.1.2.2.2.2.1)), (lC (.im b22) 3 (v21.2.1.2.2.2.2.2.1.2)), (lC (.im b23) 6 (v21.2.1.2.2.2.2.2.2.1.2)), (lC (.im b24) 10 (v21.2.1.2.2.2.2.2.2.2.1.2))]), [(bx sh7 (v21.2.1.1, (v21.2.1.2.1), (v21.2.1.2.2.1), (v21.2.1.2.2.2.1), (v21.2.1.2.2.2.2.1), ((.im b22), (v21.2.1.2.2.2.2.2.1.2)), ((.im b23), (v21.2.1.2.2.2.2.2.2.1.2)), ((.im b24), (v21.2.1.2.2.2.2.2.2.2.1.2)), ()))]))) (gd (decide (0 + v21.2.1.2.2.2.2.2.2.2.1.2.length ≤ v21.2.1.2.2.2.2.2.2.2.1.2.length)) (some ((.agg [(sC (v21.2.1.2.2.2.2.1)), (lC (.im b22) 3 (v21.2.1.2.2.2.2.2.1.2)), (lC (.im b23) 6 (v21.2.1.2.2.2.2.2.2.1.2)), (lC (.im false) 10 (plainRs (whole v21.2.1.2.2.2.2.2.2.2.1.2)))]), [(bx sh7 (v21.2.1.1, (v21.2.1.2.1), (v21.2.1.2.2.1), (v21.2.1.2.2.2.1), (v21.2.1.2.2.2.2.1), ((.im b22), (v21.2.1.2.2.2.2.2.1.2)), ((.im b23), (v21.2.1.2.2.2.2.2.2.1.2)), ((.im false), (plainRs v21.2.1.2.2.2.2.2.2.2.1.2)), ()))]))))) (tagI (v21.2.1.2.2.2.2.2.2.2.1.1) (fun b25 => (gd (decide (0 + v21.2.1.2.2.2.2.2.2.1.2.length ≤ v21.2.1.2.2.2.2.2.2.1.2.length)) (some ((.agg [(sC (v21.2.1.2.2.2.2.1)), (lC (.im b22) 3 (v21.2.1.2.2.2.2.2.1.2)), (lC (.im false) 6 (plainRs (whole v21.2.1.2.2.2.2.2.2.1.2))), (lC (.im b25) 10 (v21.2.1.2.2.2.2.2.2.2.1.2))]), [(bx sh7 (v21.2.1.1, (v21.2.1.2.1), (v21.2.1.2.2.1), (v21.2.1.2.2.2.1), (v21.2.1.2.2.2.2.1), ((.im b22), (v21.2.1.2.2.2.2.2.1.2)), ((.im false), (plainRs v21.2.1.2.2.2.2.2.2.1.2)), ((.im b25), (v21.2.1.2.2.2.2.2.2.2.1.2)), ()))])))) (gd (decide (0 + v21.2.1.2.2.2.2.2.2.1.2.length ≤ v21.2.1.2.2.2.2.2.2.1.2.length)) (gd (decide (0 + v21.2.1.2.2.2.2.2.2.2.1.2.length ≤ v21.2.1.2.2.2.2.2.2.2.1.2.length)) (some ((.agg [(sC (v21.2.1.2.2.2.2.1)), (lC (.im b22) 3 (v21.2.1.2.2.2.2.2.1.2)), (lC (.im false) 6 (plainRs (whole v21.2.1.2.2.2.2.2.2.1.2))), (lC (.im false) 10 (plainRs (whole v21.2.1.2.2.2.2.2.2.2.1.2)))]), [(bx sh7 (v21.2.1.1, (v21.2.1.2.1), (v21.2.1.2.2.1), (v21.2.1.2.2.2.1), (v21.2.1.2.2.2.2.1), ((.im b22), (v21.2.1.2.2.2.2.2.1.2)), ((.im false), (plainRs v21.2.1.2.2.2.2.2.2.1.2)), ((.im false), (plainRs v21.2.1.2.2.2.2.2.2.2.1.2)), ()))]))))))) (tagI (v21.2.1.2.2.2.2.2.2.1.1) (fun b26 => (tagI (v21.2.1.2.2.2.2.2.2.2.1.1) (fun b27 => (gd (decide (0 + v21.2.1.2.2.2.2.2.1.2.length ≤ v21.2.1.2.2.2.2.2.1.2.length)) (some ((.agg [(sC (v21.2.1.2.2.2.2.1)), (lC (.im false) 3 (plainRs (whole v21.2.1.2.2.2.2.2.1.2))), (lC (.im b26) 6 (v21.2.1.2.2.2.2.2.2.1.2)), (lC (.im b27) 10 (v21.2.1.2.2.2.2.2.2.2.1.2))]), [(bx sh7 (v21.2.1.1, (v21.2.1.2.1), (v21.2.1.2.2.1), (v21.2.1.2.2.2.1), (v21.2.1.2.2.2.2.1), ((.im false), (plainRs v21.2.1.2.2.2.2.2.1.2)), ((.im b26), (v21.2.1.2.2.2.2.2.2.1.2)), ((.im b27), (v21.2.1.2.2.2.2.2.2.2.1.2)), ()))])))) (gd (decide (0 + v21.2.1.2.2.2.2.2.1.2.length ≤ v21.2.1.2.2.2.2.2.1.2.length)) (gd (decide (0 + v21.2.1.2.2.2.2.2.2.2.1.2.length ≤ v21.2.1.2.2.2.2.2.2.2.1.2.length)) (some ((.agg [(sC (v21.2.1.2.2.2.2.1)), (lC (.im false) 3 (plainRs (whole v21.2.1.2.2.2.2.2.1.2))), (lC (.im b26) 6 (v21.2.1.2.2.2.2.2.2.1.2)), (lC (.im false) 10 (plainRs (whole v21.2.1.2.2.2.2.2.2.2.1.2)))]), [(bx sh7 (v21.2.1.1, (v21.2.1.2.1), (v21.2.1.2.2.1), (v21.2.1.2.2.2.1), (v21.2.1.2.2.2.2.1), ((.im false), (plainRs v21.2.1.2.2.2.2.2.1.2)), ((.im b26), (v21.2.1.2.2.2.2.2.2.1.2)), ((.im false), (plainRs v21.2.1.2.2.2.2.2.2.2.1.2)), ()))])))))) (tagI (v21.2.1.2.2.2.2.2.2.2.1.1) (fun b28 => (gd (decide (0 + v21.2.1.2.2.2.2.2.1.2.length ≤ v21.2.1.2.2.2.2.2.1.2.length)) (gd (decide (0 + v21.2.1.2.2.2.2.2.2.1.2.length ≤ v21.2.1.2.2.2.2.2.2.1.2.length)) (some ((.agg [(sC (v21.2.1.2.2.2.2.1)), (lC (.im false) 3 (plainRs (whole v21.2.1.2.2.2.2.2.1.2))), (lC (.im false) 6 (plainRs (whole v21.2.1.2.2.2.2.2.2.1.2))), (lC (.im b28) 10 (v21.2.1.2.2.2.2.2.2.2.1.2))]), [(bx sh7 (v21.2.1.1, (v21.2.1.2.1), (v21.2.1.2.2.1), (v21.2.1.2.2.2.1), (v21.2.1.2.2.2.2.1), ((.im false), (plainRs v21.2.1.2.2.2.2.2.1.2)), ((.im false), (plainRs v21.2.1.2.2.2.2.2.2.1.2)), ((.im b28), (v21.2.1.2.2.2.2.2.2.2.1.2)), ()))]))))) (gd (decide (0 + v21.2.1.2.2.2.2.2.1.2.length ≤ v21.2.1.2.2.2.2.2.1.2.length)) (gd (decide (0 + v21.2.1.2.2.2.2.2.2.1.2.length ≤ v21.2.1.2.2.2.2.2.2.1.2.length)) (gd (decide (0 + v21.2.1.2.2.2.2.2.2.2.1.2.length ≤ v21.2.1.2.2.2.2.2.2.2.1.2.length)) (some ((.agg [(sC (v21.2.1.2.2.2.2.1)), (lC (.im false) 3 (plainRs (whole v21.2.1.2.2.2.2.2.1.2))), (lC (.im false) 6 (plainRs (whole v21.2.1.2.2.2.2.2.2.1.2))), (lC (.im false) 10 (plainRs (whole v21.2.1.2.2.2.2.2.2.2.1.2)))]), [(bx sh7 (v21.2.1.1, (v21.2.1.2.1), (v21.2.1.2.2.1), (v21.2.1.2.2.2.1), (v21.2.1.2.2.2.2.1), ((.im false), (plainRs v21.2.1.2.2.2.2.2.1.2)), ((.im false), (plainRs v21.2.1.2.2.2.2.2.2.1.2)), ((.im false), (plainRs v21.2.1.2.2.2.2.2.2.2.1.2)), ()))]))))))))))
def lq0__3 (Cl : Oracle) (n : Nat) (x0 : RowT sh7) (m : Nat) : Sq0__3 → OR := Nat.rec (fun _ => none) (fun _ ih s => match s with | .s0 a0 a1 => wq0__3_0 Cl n x0 a0 a1 | .s1 a0 a1 a2 => wq0__3_1 Cl n x0 a0 a1 a2) m
theorem hlq0__3 (Cl : Oracle) (n : Nat) (x0 : RowT sh7) : ∀ (m : Nat) (s : Sq0__3), h16_3 Cl n [(bx sh7 x0)] m s.st = lq0__3 Cl n x0 m s := by
 intro m
 induction m with
 | zero => intro s; kernel_rfl
 | succ m ih =>
  intro s
  cases s with
  | s0 a0 a1 =>
   have h : h16_3 Cl n [(bx sh7 x0)] (m + 1) (sq0__3_0 a0 a1) = wq0__3_0 Cl n x0 a0 a1 := by kernel_rfl
   exact h
  | s1 a0 a1 a2 =>
   have h : h16_3 Cl n [(bx sh7 x0)] (m + 1) (sq0__3_1 a0 a1 a2) = wq0__3_1 Cl n x0 a0 a1 a2 := by kernel_rfl
   exact h
def lq0__1 (Cl : Oracle) (n : Nat) (x0 : RowT sh7) (H0 : Sq0__0 → OR) (m : Nat) : Sq0__1 → OR := Nat.rec (fun _ => none) (fun _ ih s => match s with | .s0 a0 a1 a2 => wq0__1_0 Cl n x0 H0 (lq0__3 Cl n x0 n) a0 a1 a2) m
theorem hlq0__1 (Cl : Oracle) (n : Nat) (x0 : RowT sh7) (m0 : Nat) : ∀ (m : Nat) (s : Sq0__1), h16_1 Cl n [(bx sh7 x0)] m0 m s.st = lq0__1 Cl n x0 (fun s => h16_0 Cl n [(bx sh7 x0)] m0 s.st) m s := by
 intro m
 induction m with
 | zero => intro s; kernel_rfl
 | succ m ih =>
  intro s
  have e3 : (fun s => h16_3 Cl n [(bx sh7 x0)] n s.st) = lq0__3 Cl n x0 n := funext (hlq0__3 Cl n x0 n)
  cases s with
  | s0 a0 a1 a2 =>
   have h : h16_1 Cl n [(bx sh7 x0)] m0 (m + 1) (sq0__1_0 a0 a1 a2) = wq0__1_0 Cl n x0 (fun s => h16_0 Cl n [(bx sh7 x0)] m0 s.st) (fun s => h16_3 Cl n [(bx sh7 x0)] n s.st) a0 a1 a2 := by kernel_rfl
   rw [e3] at h
   exact h
def lq0__2 (Cl : Oracle) (n : Nat) (x0 : RowT sh7) (H0 : Sq0__0 → OR) (m : Nat) : Sq0__2 → OR := Nat.rec (fun _ => none) (fun _ ih s => match s with | .s0 a0 a1 => wq0__2_0 Cl n x0 (lq0__1 Cl n x0 H0 n) a0 a1) m
theorem hlq0__2 (Cl : Oracle) (n : Nat) (x0 : RowT sh7) (m0 : Nat) : ∀ (m : Nat) (s : Sq0__2), h16_2 Cl n [(bx sh7 x0)] m0 m s.st = lq0__2 Cl n x0 (fun s => h16_0 Cl n [(bx sh7 x0)] m0 s.st) m s := by
 intro m
 induction m with
 | zero => intro s; kernel_rfl
 | succ m ih =>
  intro s
  have e1 : (fun s => h16_1 Cl n [(bx sh7 x0)] m0 n s.st) = lq0__1 Cl n x0 (fun s => h16_0 Cl n [(bx sh7 x0)] m0 s.st) n := funext (hlq0__1 Cl n x0 m0 n)
  cases s with
  | s0 a0 a1 =>
   have h : h16_2 Cl n [(bx sh7 x0)] m0 (m + 1) (sq0__2_0 a0 a1) = wq0__2_0 Cl n x0 (fun s => h16_1 Cl n [(bx sh7 x0)] m0 n s.st) a0 a1 := by kernel_rfl
   rw [e1] at h
   exact h
def lq0__0 (Cl : Oracle) (n : Nat) (x0 : RowT sh7) (m : Nat) : Sq0__0 → OR := Nat.rec (fun _ => none) (fun _ ih s => match s with | .s0 a0 a1 => wq0__0_0 Cl n x0 (lq0__2 Cl n x0 ih n) (lq0__3 Cl n x0 n) a0 a1) m
theorem hlq0__0 (Cl : Oracle) (n : Nat) (x0 : RowT sh7) : ∀ (m : Nat) (s : Sq0__0), h16_0 Cl n [(bx sh7 x0)] m s.st = lq0__0 Cl n x0 m s := by
 intro m
 induction m with
 | zero => intro s; kernel_rfl
 | succ m ih =>
  intro s
  have e0 : (fun s => h16_0 Cl n [(bx sh7 x0)] m s.st) = lq0__0 Cl n x0 m := funext ih
  have e2 : (fun s => h16_2 Cl n [(bx sh7 x0)] m n s.st) = lq0__2 Cl n x0 (fun s => h16_0 Cl n [(bx sh7 x0)] m s.st) n := funext (hlq0__2 Cl n x0 m n)
  have e3 : (fun s => h16_3 Cl n [(bx sh7 x0)] n s.st) = lq0__3 Cl n x0 n := funext (hlq0__3 Cl n x0 n)
  cases s with
  | s0 a0 a1 =>
   have h : h16_0 Cl n [(bx sh7 x0)] (m + 1) (sq0__0_0 a0 a1) = wq0__0_0 Cl n x0 (fun s => h16_2 Cl n [(bx sh7 x0)] m n s.st) (fun s => h16_3 Cl n [(bx sh7 x0)] n s.st) a0 a1 := by kernel_rfl
   rw [e2, e3, e0] at h
   exact h
def ttq0_ (Cl : Oracle) (n : Nat) (H0 : Sq0__0 → OR) (x0 : RowT sh7) : OR :=
 (tRes rs15 (Cl 32 [pE] [(bx sh7 x0)]) fun v0 => (tRes rs10 (Cl 33 [pE, (.one (sC [40]))] [(bx sh7 (v0.2.1.1, (v0.2.1.2.1), (v0.2.1.2.2.1), (v0.2.1.2.2.2.1), (v0.1), ((.im true), []), ((.im true), []), ((.im true), []), ()))]) fun v1 => (H0 (.s0 (v1.2.1) ([], ((.im true), []), ((.im true), []), ((.im true), []), ())))))
def tq0_ (Cl : Oracle) (n : Nat) (x0 : RowT sh7) : OR := ttq0_ Cl n (lq0__0 Cl n x0 n) x0
theorem ptq0_ (Cl : Oracle) (n : Nat) (x0 : RowT sh7) : evBodyA an16 Cl n k16 [pE] [(bx sh7 x0)] = tq0_ Cl n x0 := by
 have h : evBodyA an16 Cl n k16 [pE] [(bx sh7 x0)] = ttq0_ Cl n (fun s => h16_0 Cl n [(bx sh7 x0)] n s.st) x0 := by kernel_rfl
 have e0 : (fun s => h16_0 Cl n [(bx sh7 x0)] n s.st) = lq0__0 Cl n x0 n := funext (hlq0__0 Cl n x0 n)
 rw [e0] at h
 exact h
def tq1j_ (Cl : Oracle) (n : Nat) (x0 : RowT sh7) : OR :=
 (tRes rs6 (Cl 18 [pE] [(bx sh7 x0)]) fun v0 => (bif (v0.1) then (some ((.tup []), [(bx sh7 (v0.2.1))])) else (bif (decide (v0.2.1.2.1 < natI v0.2.1.1.2.length)) then (qOpt (asI v0.2.1.2.1) fun o1 => (rA sh3 2 1 v0.2.1.1.2 (o1) fun v3 => (some ((.tup []), [(bx sh7 (v0.2.1.1, (v0.2.1.2.1), (v0.2.1.2.2.1), (v3.1), v0.2.1.2.2.2.2))])))) else (some ((.tup []), [(bx sh7 (v0.2.1.1, (v0.2.1.2.1), (v0.2.1.2.2.1), (v0.2.1.2.2.1), v0.2.1.2.2.2.2))])))))
theorem ptq1j_ (Cl : Oracle) (n : Nat) (x0 : RowT sh7) : evBodyA an17 Cl n k17 [pE] [(bx sh7 x0)] = tq1j_ Cl n x0 := by kernel_rfl
def tqx_ (Cl : Oracle) (n : Nat) (x0 : RowT sh7) : OR :=
 (some ((.one (bC (decide (x0.2.2.2.1 ≥ (0 : Int))))), [(bx sh7 x0)]))
theorem ptqx_ (Cl : Oracle) (n : Nat) (x0 : RowT sh7) : evBodyA an18 Cl n k18 [pE] [(bx sh7 x0)] = tqx_ Cl n x0 := by kernel_rfl
def sqn__0_0 : Go.Abs.St := []
inductive Sqn__0 where | s0
def Sqn__0.st : Sqn__0 → Go.Abs.St | .s0 => sqn__0_0
def wqn__0_0 (Cl : Oracle) (n : Nat) : OR :=
 (some ((.one (iC (-1))), []))
def lqn__0 (Cl : Oracle) (n : Nat) (m : Nat) : Sqn__0 → OR := Nat.rec (fun _ => none) (fun _ ih s => match s with | .s0 => wqn__0_0 Cl n ) m
theorem hlqn__0 (Cl : Oracle) (n : Nat) : ∀ (m : Nat) (s : Sqn__0), h9_0 Cl n [] m s.st = lqn__0 Cl n m s := by
 intro m
 induction m with
 | zero => intro s; kernel_rfl
 | succ m ih =>
  intro s
  cases s with
  | s0 =>
   have h : h9_0 Cl n [] (m + 1) (sqn__0_0 ) = wqn__0_0 Cl n := by kernel_rfl
   exact h
def ttqn_ (Cl : Oracle) (n : Nat) (H0 : Sqn__0 → OR) (x0 : Int) : OR :=
 (bif (x0 == (0 : Int)) then (some ((.one (iC 0)), [])) else (bif (x0 == (1 : Int)) then (some ((.one (iC 0)), [])) else (bif (x0 == (2 : Int)) then (some ((.one (iC 0)), [])) else (bif (x0 == (3 : Int)) then (some ((.one (iC 0)), [])) else (bif (x0 == (4 : Int)) then (some ((.one (iC 0)), [])) else (bif (x0 == (5 : Int)) then (some ((.one (iC 0)), [])) else (bif (x0 == (15 : Int)) then (some ((.one (iC 1)), [])) else (bif (x0 == (16 : Int)) then (some ((.one (iC 1)), [])) else (bif (x0 == (6 : Int)) then (some ((.one (iC 2)), [])) else (bif (x0 == (7 : Int)) then (some ((.one (iC 2)), [])) else (bif (x0 == (8 : Int)) then (some ((.one (iC 2)), [])) else (bif (x0 == (9 : Int)) then (some ((.one (iC 2)), [])) else (bif (x0 == (10 : Int)) then (some ((.one (iC 2)), [])) else (bif (x0 == (11 : Int)) then (some ((.one (iC 2)), [])) else (bif (x0 == (12 : Int)) then (some ((.one (iC 2)), [])) else (bif (x0 == (13 : Int)) then (some ((.one (iC 2)), [])) else (bif (x0 == (14 : Int)) then (some ((.one (iC 2)), [])) else (bif (x0 == (17 : Int)) then (some ((.one (iC 2)), [])) else (bif (x0 == (18 : Int)) then (some ((.one (iC 2)), [])) else (bif (x0 == (19 : Int)) then (some ((.one (iC 2)), [])) else (H0 (.s0 ))))))))))))))))))))))
def tqn_ (Cl : Oracle) (n : Nat) (x0 : Int) : OR := ttqn_ Cl n (lqn__0 Cl n n) x0
theorem ptqn_ (Cl : Oracle) (n : Nat) (x0 : Int) : evBodyA an9 Cl n k9 [(.one (iC x0))] [] = tqn_ Cl n x0 := by
 have h : evBodyA an9 Cl n k9 [(.one (iC x0))] [] = ttqn_ Cl n (fun s => h9_0 Cl n [] n s.st) x0 := by kernel_rfl
 have e0 : (fun s => h9_0 Cl n [] n s.st) = lqn__0 Cl n n := funext (hlqn__0 Cl n n)
 rw [e0] at h
 exact h
def tq11_ (Cl : Oracle) (n : Nat) (x0 : Int) (x1 : BB) (x2 : Int) (x3 : BB) (x4 : Int) (x5 : Int) : OR :=
 (bif (x0 == (0 : Int)) then (tRes rs2 (Cl 21 [(.one (sC x1))] []) fun v0 => (bif (v0.1) then (bif (x2 == (0 : Int)) then (some ((.one (bC (x3 == []))), [])) else rF) else rF)) else (bif (x0 == (1 : Int)) then (bif (x1 == []) then (some ((.one (bC (x3 == []))), [])) else rF) else (bif (x0 == (2 : Int)) then (bif (x1 == []) then (bif (x3 == []) then (bif (x2 == (0 : Int)) then rT else (some ((.one (bC (x2 == (1 : Int)))), []))) else rF) else rF) else (bif (x0 == (3 : Int)) then (bif (x1 == []) then (bif (x2 == (0 : Int)) then (some ((.one (bC (decide (natI x3.length ≤ (24 : Int))))), [])) else rF) else rF) else (bif (x1 == []) then (bif (x2 == (0 : Int)) then (some ((.one (bC (x3 == []))), [])) else rF) else rF)))))
theorem ptq11_ (Cl : Oracle) (n : Nat) (x0 : Int) (x1 : BB) (x2 : Int) (x3 : BB) (x4 : Int) (x5 : Int) : evBodyA an10 Cl n k10 [(.agg [(iC x0), (sC x1), (iC x2), (sC x3), (iC x4), (iC x5)])] [] = tq11_ Cl n x0 x1 x2 x3 x4 x5 := by kernel_rfl
def tq12_ (Cl : Oracle) (n : Nat) (x0 : Int) (x1 : BB) (x2 : Int) (x3 : BB) (x4 : Int) (x5 : Int) : OR :=
 (bif (x0 == (0 : Int)) then (some ((.one (sC x1)), [])) else (bif (x0 == (1 : Int)) then (tRes rs0 (Cl 53 [(.one (iC x2)), (.one (iC 10))] []) fun v0 => (some ((.one (sC (v0.1))), []))) else (bif (x0 == (2 : Int)) then (tRes rs0 (Cl 54 [(.one (bC (x2 == (1 : Int))))] []) fun v1 => (some ((.one (sC (v1.1))), []))) else (bif (x0 == (3 : Int)) then (tRes rs0 (Cl 55 [(.one (sC x3))] []) fun v2 => (some ((.one (sC (v2.1))), []))) else (bif (x0 == (4 : Int)) then (some ((.one (sC [101, 109, 112, 116, 121])), [])) else (some ((.one (sC [117, 110, 105, 116])), [])))))))
theorem ptq12_ (Cl : Oracle) (n : Nat) (x0 : Int) (x1 : BB) (x2 : Int) (x3 : BB) (x4 : Int) (x5 : Int) : evBodyA an39 Cl n k39 [(.agg [(iC x0), (sC x1), (iC x2), (sC x3), (iC x4), (iC x5)])] [] = tq12_ Cl n x0 x1 x2 x3 x4 x5 := by kernel_rfl
def tq13_ (Cl : Oracle) (n : Nat) (x0 : BB) (x1 : RowT sh5) : OR :=
 (tRes rs4 (Cl 52 [pE] [(bx sh5 x1)]) fun v0 => (tagI (v0.2.1.2.1.1) (fun b1 => (gd (u8ok 1 (D.strB x0) false && (b1 && true && decide ((D.strB x0).length * 1 ≤ 140737488355328))) (bif ((D.strB x0).isEmpty) then (some ((.tup [(.one (iC (natI x0.length))), (.one .nili)]), [(bx sh5 ((), ((.im true), (D.strB x0)), ()))])) else (some ((.tup [(.one (iC (natI x0.length))), (.one .nili)]), [(bx sh5 ((), (.own, (D.strB x0)), ()))]))))) (gd (u8ok 1 (D.strB x0) v0.2.1.2.1.2.isEmpty && true && true && v0.2.1.2.1.2.length == v0.2.1.2.1.2.length && true && decide ((v0.2.1.2.1.2.length + (D.strB x0).length) * 1 ≤ 140737488355328)) (some ((.tup [(.one (iC (natI x0.length))), (.one .nili)]), [(bx sh5 ((), (.own, (v0.2.1.2.1.2 ++ D.strB x0)), ()))])))))
theorem ptq13_ (Cl : Oracle) (n : Nat) (x0 : BB) (x1 : RowT sh5) : evBodyA an38 Cl n k38 [pE, (.one (sC x0))] [(bx sh5 x1)] = tq13_ Cl n x0 x1 := by kernel_rfl
def tq14_ (Cl : Oracle) (n : Nat) (x0 : Int) : OR :=
 (bif (x0 == (6 : Int)) then (some ((.one (sC [43])), [])) else (bif (x0 == (7 : Int)) then (some ((.one (sC [45])), [])) else (bif (x0 == (8 : Int)) then (some ((.one (sC [42])), [])) else (bif (x0 == (9 : Int)) then (some ((.one (sC [47])), [])) else (bif (x0 == (10 : Int)) then (some ((.one (sC [109, 111, 100])), [])) else (bif (x0 == (11 : Int)) then (some ((.one (sC [61, 61])), [])) else (bif (x0 == (12 : Int)) then (some ((.one (sC [60])), [])) else (bif (x0 == (13 : Int)) then (some ((.one (sC [97, 110, 100])), [])) else (bif (x0 == (14 : Int)) then (some ((.one (sC [111, 114])), [])) else (some ((.one (sC [])), [])))))))))))
theorem ptq14_ (Cl : Oracle) (n : Nat) (x0 : Int) : evBodyA an40 Cl n k40 [(.one (iC x0))] [] = tq14_ Cl n x0 := by kernel_rfl
def tq15_ (Cl : Oracle) (n : Nat) (x0 : Int) : OR :=
 (bif (x0 == (16 : Int)) then (some ((.one (sC [108, 101, 110])), [])) else (bif (x0 == (17 : Int)) then (some ((.one (sC [97, 116])), [])) else (bif (x0 == (18 : Int)) then (some ((.one (sC [112, 117, 115, 104])), [])) else (some ((.one (sC [106, 111, 105, 110])), [])))))
theorem ptq15_ (Cl : Oracle) (n : Nat) (x0 : Int) : evBodyA an41 Cl n k41 [(.one (iC x0))] [] = tq15_ Cl n x0 := by kernel_rfl
def tq16_ (Cl : Oracle) (n : Nat) (x0 : Int) : OR :=
 (bif (decide (x0 ≥ (48 : Int))) then (some ((.one (bC (decide (x0 ≤ (57 : Int))))), [])) else rF)
theorem ptq16_ (Cl : Oracle) (n : Nat) (x0 : Int) : evBodyA an22 Cl n k22 [(.one (.d (.int .u8 x0)))] [] = tq16_ Cl n x0 := by kernel_rfl
def tq17_ (Cl : Oracle) (n : Nat) (x0 : Int) (x1 : BB) (x2 : Int) : OR :=
 (bif (x0 == (0 : Int)) then (tRes rs2 (Cl 43 [(.one (sC x1))] []) fun v0 => (some ((.one (bC (!v0.1))), []))) else (bif (x0 == (1 : Int)) then rT else (bif (x0 == (2 : Int)) then rT else (some ((.one (bC (x1 == [41]))), [])))))
theorem ptq17_ (Cl : Oracle) (n : Nat) (x0 : Int) (x1 : BB) (x2 : Int) : evBodyA an23 Cl n k23 [(.agg [(iC x0), (sC x1), (iC x2)])] [] = tq17_ Cl n x0 x1 x2 := by kernel_rfl
def tq18_ (Cl : Oracle) (n : Nat) (x0 : Int) : OR :=
 (bif (decide (x0 ≥ (97 : Int))) then (some ((.one (bC (decide (x0 ≤ (122 : Int))))), [])) else rF)
theorem ptq18_ (Cl : Oracle) (n : Nat) (x0 : Int) : evBodyA an26 Cl n k26 [(.one (.d (.int .u8 x0)))] [] = tq18_ Cl n x0 := by kernel_rfl
def s_lex_runx1_0_0 (a0 : BB) (a1 : Int) : Go.Abs.St := [((.s 0), ⟨(.one (sC a0)), 0⟩), ((.s 1), ⟨(.one (iC a1)), 0⟩), ((.s 2), ⟨(.one (.fn 27 [] [])), 0⟩)]
inductive S_lex_runx1_0 where | s0 (a0 : BB) (a1 : Int)
def S_lex_runx1_0.st : S_lex_runx1_0 → Go.Abs.St | .s0 a0 a1 => s_lex_runx1_0_0 a0 a1
def w_lex_runx1_0_0 (Cl : Oracle) (n : Nat) (H0 : S_lex_runx1_0 → OR) (a0 : BB) (a1 : Int) : OR :=
 (bif (decide (a1 < natI a0.length)) then (qOpt (asI a1) fun o0 => (qOpt (a0[o0]?) fun o1 => (tRes rs2 (Cl 27 [(.one (.d (.int .u8 (natI o1.toNat))))] []) fun v2 => (bif (v2.1) then (H0 (.s0 a0 (w64 (a1 + (1 : Int))))) else (some ((.one (iC a1)), [])))))) else (some ((.one (iC a1)), [])))
def l_lex_runx1_0 (Cl : Oracle) (n : Nat) (m : Nat) : S_lex_runx1_0 → OR := Nat.rec (fun _ => none) (fun _ ih s => match s with | .s0 a0 a1 => w_lex_runx1_0_0 Cl n ih a0 a1) m
theorem hl_lex_runx1_0 (Cl : Oracle) (n : Nat) : ∀ (m : Nat) (s : S_lex_runx1_0), h24_0 Cl n [] m s.st = l_lex_runx1_0 Cl n m s := by
 intro m
 induction m with
 | zero => intro s; kernel_rfl
 | succ m ih =>
  intro s
  have e0 : (fun s => h24_0 Cl n [] m s.st) = l_lex_runx1_0 Cl n m := funext ih
  cases s with
  | s0 a0 a1 =>
   have h : h24_0 Cl n [] (m + 1) (s_lex_runx1_0_0 a0 a1) = w_lex_runx1_0_0 Cl n (fun s => h24_0 Cl n [] m s.st) a0 a1 := by kernel_rfl
   rw [e0] at h
   exact h
def tt_lex_runx1 (Cl : Oracle) (n : Nat) (H0 : S_lex_runx1_0 → OR) (x0 : BB) (x1 : Int) : OR :=
 (H0 (.s0 x0 x1))
def t_lex_runx1 (Cl : Oracle) (n : Nat) (x0 : BB) (x1 : Int) : OR := tt_lex_runx1 Cl n (l_lex_runx1_0 Cl n n) x0 x1
theorem pt_lex_runx1 (Cl : Oracle) (n : Nat) (x0 : BB) (x1 : Int) : evBodyA an24 Cl n k24 [(.one (sC x0)), (.one (iC x1)), (.one (.fn 27 [] []))] [] = t_lex_runx1 Cl n x0 x1 := by
 have h : evBodyA an24 Cl n k24 [(.one (sC x0)), (.one (iC x1)), (.one (.fn 27 [] []))] [] = tt_lex_runx1 Cl n (fun s => h24_0 Cl n [] n s.st) x0 x1 := by kernel_rfl
 have e0 : (fun s => h24_0 Cl n [] n s.st) = l_lex_runx1_0 Cl n n := funext (hl_lex_runx1_0 Cl n n)
 rw [e0] at h
 exact h
def s_lex_runx2_0_0 (a0 : BB) (a1 : Int) : Go.Abs.St := [((.s 0), ⟨(.one (sC a0)), 0⟩), ((.s 1), ⟨(.one (iC a1)), 0⟩), ((.s 2), ⟨(.one (.fn 22 [] [])), 0⟩)]
inductive S_lex_runx2_0 where | s0 (a0 : BB) (a1 : Int)
def S_lex_runx2_0.st : S_lex_runx2_0 → Go.Abs.St | .s0 a0 a1 => s_lex_runx2_0_0 a0 a1
def w_lex_runx2_0_0 (Cl : Oracle) (n : Nat) (H0 : S_lex_runx2_0 → OR) (a0 : BB) (a1 : Int) : OR :=
 (bif (decide (a1 < natI a0.length)) then (qOpt (asI a1) fun o0 => (qOpt (a0[o0]?) fun o1 => (tRes rs2 (Cl 22 [(.one (.d (.int .u8 (natI o1.toNat))))] []) fun v2 => (bif (v2.1) then (H0 (.s0 a0 (w64 (a1 + (1 : Int))))) else (some ((.one (iC a1)), [])))))) else (some ((.one (iC a1)), [])))
def l_lex_runx2_0 (Cl : Oracle) (n : Nat) (m : Nat) : S_lex_runx2_0 → OR := Nat.rec (fun _ => none) (fun _ ih s => match s with | .s0 a0 a1 => w_lex_runx2_0_0 Cl n ih a0 a1) m
theorem hl_lex_runx2_0 (Cl : Oracle) (n : Nat) : ∀ (m : Nat) (s : S_lex_runx2_0), h24_0 Cl n [] m s.st = l_lex_runx2_0 Cl n m s := by
 intro m
 induction m with
 | zero => intro s; kernel_rfl
 | succ m ih =>
  intro s
  have e0 : (fun s => h24_0 Cl n [] m s.st) = l_lex_runx2_0 Cl n m := funext ih
  cases s with
  | s0 a0 a1 =>
   have h : h24_0 Cl n [] (m + 1) (s_lex_runx2_0_0 a0 a1) = w_lex_runx2_0_0 Cl n (fun s => h24_0 Cl n [] m s.st) a0 a1 := by kernel_rfl
   rw [e0] at h
   exact h
def tt_lex_runx2 (Cl : Oracle) (n : Nat) (H0 : S_lex_runx2_0 → OR) (x0 : BB) (x1 : Int) : OR :=
 (H0 (.s0 x0 x1))
def t_lex_runx2 (Cl : Oracle) (n : Nat) (x0 : BB) (x1 : Int) : OR := tt_lex_runx2 Cl n (l_lex_runx2_0 Cl n n) x0 x1
theorem pt_lex_runx2 (Cl : Oracle) (n : Nat) (x0 : BB) (x1 : Int) : evBodyA an24 Cl n k24 [(.one (sC x0)), (.one (iC x1)), (.one (.fn 22 [] []))] [] = t_lex_runx2 Cl n x0 x1 := by
 have h : evBodyA an24 Cl n k24 [(.one (sC x0)), (.one (iC x1)), (.one (.fn 22 [] []))] [] = tt_lex_runx2 Cl n (fun s => h24_0 Cl n [] n s.st) x0 x1 := by kernel_rfl
 have e0 : (fun s => h24_0 Cl n [] n s.st) = l_lex_runx2_0 Cl n n := funext (hl_lex_runx2_0 Cl n n)
 rw [e0] at h
 exact h
def sqb__0_0 (a0 : BB) : Go.Abs.St := [((.s 0), ⟨(.one (sC a0)), 0⟩)]
def sqb__1_0 (a0 : BB) (a1 : BB) : Go.Abs.St := [((.s 0), ⟨(.one (sC a0)), 0⟩), ((.s 3), ⟨(.one (sC a1)), 0⟩)]
inductive Sqb__0 where | s0 (a0 : BB)
def Sqb__0.st : Sqb__0 → Go.Abs.St | .s0 a0 => sqb__0_0 a0
inductive Sqb__1 where | s0 (a0 : BB) (a1 : BB)
def Sqb__1.st : Sqb__1 → Go.Abs.St | .s0 a0 a1 => sqb__1_0 a0 a1
def wqb__0_0 (Cl : Oracle) (n : Nat) (a0 : BB) : OR :=
 (tRes rs18 (Cl 45 [(.one (sC a0)), (.one (iC 10)), (.one (iC 64))] []) fun v3 => (bif (v3.1.2.1) then rT else rF))
def wqb__1_0 (Cl : Oracle) (n : Nat) (H0 : Sqb__0 → OR) (a0 : BB) (a1 : BB) : OR :=
 (bif (a1 == []) then rF else (tRes rs12 (Cl 24 [(.one (sC a1)), (.one (iC 0)), (.one (.fn 22 [] []))] []) fun v1 => (bif (v1.1 != natI a1.length) then rF else (qOpt (a1[Int.toNat (0 : Int)]?) fun o2 => (bif (natI o2.toNat == (48 : Int)) then (bif (decide (natI a1.length > (1 : Int))) then rF else (bif (a0 == [45, 48]) then rF else (H0 (.s0 a0)))) else (bif (a0 == [45, 48]) then rF else (H0 (.s0 a0))))))))
def lqb__0 (Cl : Oracle) (n : Nat) (m : Nat) : Sqb__0 → OR := Nat.rec (fun _ => none) (fun _ ih s => match s with | .s0 a0 => wqb__0_0 Cl n a0) m
theorem hlqb__0 (Cl : Oracle) (n : Nat) : ∀ (m : Nat) (s : Sqb__0), h28_0 Cl n [] m s.st = lqb__0 Cl n m s := by
 intro m
 induction m with
 | zero => intro s; kernel_rfl
 | succ m ih =>
  intro s
  cases s with
  | s0 a0 =>
   have h : h28_0 Cl n [] (m + 1) (sqb__0_0 a0) = wqb__0_0 Cl n a0 := by kernel_rfl
   exact h
def lqb__1 (Cl : Oracle) (n : Nat) (m : Nat) : Sqb__1 → OR := Nat.rec (fun _ => none) (fun _ ih s => match s with | .s0 a0 a1 => wqb__1_0 Cl n (lqb__0 Cl n n) a0 a1) m
theorem hlqb__1 (Cl : Oracle) (n : Nat) : ∀ (m : Nat) (s : Sqb__1), h28_1 Cl n [] m s.st = lqb__1 Cl n m s := by
 intro m
 induction m with
 | zero => intro s; kernel_rfl
 | succ m ih =>
  intro s
  have e0 : (fun s => h28_0 Cl n [] n s.st) = lqb__0 Cl n n := funext (hlqb__0 Cl n n)
  cases s with
  | s0 a0 a1 =>
   have h : h28_1 Cl n [] (m + 1) (sqb__1_0 a0 a1) = wqb__1_0 Cl n (fun s => h28_0 Cl n [] n s.st) a0 a1 := by kernel_rfl
   rw [e0] at h
   exact h
def ttqb_ (Cl : Oracle) (n : Nat) (H1 : Sqb__1 → OR) (x0 : BB) : OR :=
 (bif (!x0 == []) then (qOpt (x0[Int.toNat (0 : Int)]?) fun o0 => (bif (natI o0.toNat == (45 : Int)) then (gd (decide (Int.toNat (1 : Int) ≤ x0.length) && decide (x0.length ≤ x0.length)) (H1 (.s0 x0 (List.take (x0.length - Int.toNat (1 : Int)) (List.drop (Int.toNat (1 : Int)) x0))))) else (H1 (.s0 x0 x0)))) else (H1 (.s0 x0 x0)))
def tqb_ (Cl : Oracle) (n : Nat) (x0 : BB) : OR := ttqb_ Cl n (lqb__1 Cl n n) x0
theorem ptqb_ (Cl : Oracle) (n : Nat) (x0 : BB) : evBodyA an28 Cl n k28 [(.one (sC x0))] [] = tqb_ Cl n x0 := by
 have h : evBodyA an28 Cl n k28 [(.one (sC x0))] [] = ttqb_ Cl n (fun s => h28_1 Cl n [] n s.st) x0 := by kernel_rfl
 have e1 : (fun s => h28_1 Cl n [] n s.st) = lqb__1 Cl n n := funext (hlqb__1 Cl n n)
 rw [e1] at h
 exact h
def sq1__0_0 (a0 : Int) (a1 : RowT [.str]) (a2 : Bool) (a3 : RR) : Go.Abs.St := [((.s 1), ⟨(.one (iC a0)), 0⟩), ((.r (.l 2)), ⟨(.one (iC 1)), 1⟩), ((.b (.l 2) 0), ⟨(.one (sC a1.1)), 0⟩), ((.s 2), ⟨(.one (.ptr (.l 2) 1 0)), 0⟩), ((.s 7), ⟨(.one (lC (.im a2) 1 a3)), 0⟩), ((.s 8), ⟨(.one (.fn 46 [] [(.ptr (.l 2) 1 0)])), 0⟩)]
def sq1__0_1 (a0 : Int) (a1 : RowT [.str]) (a2 : RR) : Go.Abs.St := [((.s 1), ⟨(.one (iC a0)), 0⟩), ((.r (.l 2)), ⟨(.one (iC 1)), 1⟩), ((.b (.l 2) 0), ⟨(.one (sC a1.1)), 0⟩), ((.s 2), ⟨(.one (.ptr (.l 2) 1 0)), 0⟩), ((.s 7), ⟨(.one (lC .own 1 a2)), 0⟩), ((.s 8), ⟨(.one (.fn 46 [] [(.ptr (.l 2) 1 0)])), 0⟩)]
def sqf__0 (a0 : Int) (a1 : RowT [.str]) (a2 : Bool) (a3 : RR) : Go.Abs.St := [((.s 1), ⟨(.one (iC a0)), 0⟩), ((.r (.l 2)), ⟨(.one (iC 1)), 1⟩), ((.b (.l 2) 0), ⟨(.one (sC a1.1)), 0⟩), ((.s 2), ⟨(.one (.ptr (.l 2) 1 0)), 0⟩), ((.s 7), ⟨(.one (lC (.im a2) 1 a3)), 0⟩), ((.s 8), ⟨(.one (.fn 46 [] [(.ptr (.l 2) 1 0)])), 0⟩)]
def sqf__1 (a0 : Int) (a1 : RowT [.str]) (a2 : RR) : Go.Abs.St := [((.s 1), ⟨(.one (iC a0)), 0⟩), ((.r (.l 2)), ⟨(.one (iC 1)), 1⟩), ((.b (.l 2) 0), ⟨(.one (sC a1.1)), 0⟩), ((.s 2), ⟨(.one (.ptr (.l 2) 1 0)), 0⟩), ((.s 7), ⟨(.one (lC .own 1 a2)), 0⟩), ((.s 8), ⟨(.one (.fn 46 [] [(.ptr (.l 2) 1 0)])), 0⟩)]
def sq1__2_0 (a0 : Int) (a1 : RowT [.str]) (a2 : RR) : Go.Abs.St := [((.s 1), ⟨(.one (iC a0)), 0⟩), ((.r (.l 2)), ⟨(.one (iC 1)), 1⟩), ((.b (.l 2) 0), ⟨(.one (sC a1.1)), 0⟩), ((.s 2), ⟨(.one (.ptr (.l 2) 1 0)), 0⟩), ((.s 7), ⟨(.one (lC .own 1 a2)), 0⟩), ((.s 8), ⟨(.one (.fn 46 [] [(.ptr (.l 2) 1 0)])), 0⟩)]
inductive Sq1__0 where | s0 (a0 : Int) (a1 : RowT [.str]) (a2 : Bool) (a3 : RR) | s1 (a0 : Int) (a1 : RowT [.str]) (a2 : RR)
def Sq1__0.st : Sq1__0 → Go.Abs.St | .s0 a0 a1 a2 a3 => sq1__0_0 a0 a1 a2 a3 | .s1 a0 a1 a2 => sq1__0_1 a0 a1 a2
inductive Sqf_ where | s0 (a0 : Int) (a1 : RowT [.str]) (a2 : Bool) (a3 : RR) | s1 (a0 : Int) (a1 : RowT [.str]) (a2 : RR)
def Sqf_.st : Sqf_ → Go.Abs.St | .s0 a0 a1 a2 a3 => sqf__0 a0 a1 a2 a3 | .s1 a0 a1 a2 => sqf__1 a0 a1 a2
inductive Sq1__2 where | s0 (a0 : Int) (a1 : RowT [.str]) (a2 : RR)
def Sq1__2.st : Sq1__2 → Go.Abs.St | .s0 a0 a1 a2 => sq1__2_0 a0 a1 a2
def wq1__0_0 (Cl : Oracle) (n : Nat) (H1 : Sqf_ → OR) (H2 : Sq1__2 → OR) (a0 : Int) (a1 : RowT [.str]) (a2 : Bool) (a3 : RR) : OR :=
 (bif (decide (a0 < natI (List.length a1.1))) then (qOpt (asI a0) fun o0 => (qOpt (a1.1[o0]?) fun o1 => (bif (natI o1.toNat == (34 : Int)) then (qOpt (toBytes a3) fun o2 => (some ((.tup [(.one (sC o2)), (.one (iC (w64 (a0 + (1 : Int))))), (.one (bC true))]), []))) else (bif (natI o1.toNat == (92 : Int)) then (tRes rs19 (Cl 46 [(.one (iC (w64 (a0 + (1 : Int))))), pE] [(bx [.str] a1)]) fun v3 => (bif (v3.1 == (34 : Int)) then (qOpt (asI (w64 (a0 + (1 : Int)))) fun o4 => (qOpt (v3.2.1.1[o4]?) fun o5 => (gd (a2 && true && true) (H2 (.s0 (w64 (a0 + (1 : Int))) (v3.2.1) [[(.int .u8 (natI o5.toNat))]]))))) else (bif (v3.1 == (92 : Int)) then (qOpt (asI (w64 (a0 + (1 : Int)))) fun o6 => (qOpt (v3.2.1.1[o6]?) fun o7 => (gd (a2 && true && true) (H2 (.s0 (w64 (a0 + (1 : Int))) (v3.2.1) [[(.int .u8 (natI o7.toNat))]]))))) else (bif (v3.1 == (110 : Int)) then (gd (a2 && true && true) (H2 (.s0 (w64 (a0 + (1 : Int))) (v3.2.1) [[(.int .u8 10)]]))) else (bif (v3.1 == (120 : Int)) then (tRes rs19 (Cl 46 [(.one (iC (w64 (w64 (a0 + (1 : Int)) + (1 : Int))))), pE] [(bx [.str] (v3.2.1))]) fun v8 => (tRes rs2 (Cl 47 [(.one (.d (.int .u8 (v8.1))))] []) fun v9 => (bif (!v9.1) then (some ((.tup [(.one (sC [])), (.one (iC 0)), (.one (bC false))]), [])) else (tRes rs19 (Cl 46 [(.one (iC (w64 (w64 (a0 + (1 : Int)) + (2 : Int))))), pE] [(bx [.str] (v8.2.1))]) fun v10 => (tRes rs2 (Cl 47 [(.one (.d (.int .u8 (v10.1))))] []) fun v11 => (bif (!v11.1) then (some ((.tup [(.one (sC [])), (.one (iC 0)), (.one (bC false))]), [])) else (H1 (.s0 (w64 (a0 + (1 : Int))) (v10.2.1) a2 a3)))))))) else (some ((.tup [(.one (sC [])), (.one (iC 0)), (.one (bC false))]), []))))))) else (bif (decide (natI o1.toNat < (32 : Int))) then (some ((.tup [(.one (sC [])), (.one (iC 0)), (.one (bC false))]), [])) else (bif (decide (natI o1.toNat > (126 : Int))) then (some ((.tup [(.one (sC [])), (.one (iC 0)), (.one (bC false))]), [])) else (gd (a2 && true && true) (H2 (.s0 a0 a1 [[(.int .u8 (natI o1.toNat))]]))))))))) else (some ((.tup [(.one (sC [])), (.one (iC 0)), (.one (bC false))]), [])))
def wq1__0_1 (Cl : Oracle) (n : Nat) (H1 : Sqf_ → OR) (H2 : Sq1__2 → OR) (a0 : Int) (a1 : RowT [.str]) (a2 : RR) : OR :=
 (bif (decide (a0 < natI (List.length a1.1))) then (qOpt (asI a0) fun o18 => (qOpt (a1.1[o18]?) fun o19 => (bif (natI o19.toNat == (34 : Int)) then (gd (decide (0 + a2.length ≤ a2.length)) (qOpt (toBytes (plainRs (whole a2))) fun o20 => (some ((.tup [(.one (sC o20)), (.one (iC (w64 (a0 + (1 : Int))))), (.one (bC true))]), [])))) else (bif (natI o19.toNat == (92 : Int)) then (tRes rs19 (Cl 46 [(.one (iC (w64 (a0 + (1 : Int))))), pE] [(bx [.str] a1)]) fun v21 => (bif (v21.1 == (34 : Int)) then (qOpt (asI (w64 (a0 + (1 : Int)))) fun o22 => (qOpt (v21.2.1.1[o22]?) fun o23 => (gd (u8ok 1 ([[D.int .u8 (0 : Int)]].set 0 [D.int .u8 (natI o23.toNat)]) a2.isEmpty && true && true && a2.length == a2.length && true && decide ((a2.length + 1) * 1 ≤ 140737488355328)) (H2 (.s0 (w64 (a0 + (1 : Int))) (v21.2.1) (a2 ++ [[D.int .u8 (0 : Int)]].set 0 [D.int .u8 (natI o23.toNat)])))))) else (bif (v21.1 == (92 : Int)) then (qOpt (asI (w64 (a0 + (1 : Int)))) fun o24 => (qOpt (v21.2.1.1[o24]?) fun o25 => (gd (u8ok 1 ([[D.int .u8 (0 : Int)]].set 0 [D.int .u8 (natI o25.toNat)]) a2.isEmpty && true && true && a2.length == a2.length && true && decide ((a2.length + 1) * 1 ≤ 140737488355328)) (H2 (.s0 (w64 (a0 + (1 : Int))) (v21.2.1) (a2 ++ [[D.int .u8 (0 : Int)]].set 0 [D.int .u8 (natI o25.toNat)])))))) else (bif (v21.1 == (110 : Int)) then (gd (u8ok 1 ([[D.int .u8 (0 : Int)]].set 0 [D.int .u8 (10 : Int)]) a2.isEmpty && true && true && a2.length == a2.length && true && decide ((a2.length + 1) * 1 ≤ 140737488355328)) (H2 (.s0 (w64 (a0 + (1 : Int))) (v21.2.1) (a2 ++ [[D.int .u8 (0 : Int)]].set 0 [D.int .u8 (10 : Int)])))) else (bif (v21.1 == (120 : Int)) then (tRes rs19 (Cl 46 [(.one (iC (w64 (w64 (a0 + (1 : Int)) + (1 : Int))))), pE] [(bx [.str] (v21.2.1))]) fun v26 => (tRes rs2 (Cl 47 [(.one (.d (.int .u8 (v26.1))))] []) fun v27 => (bif (!v27.1) then (some ((.tup [(.one (sC [])), (.one (iC 0)), (.one (bC false))]), [])) else (tRes rs19 (Cl 46 [(.one (iC (w64 (w64 (a0 + (1 : Int)) + (2 : Int))))), pE] [(bx [.str] (v26.2.1))]) fun v28 => (tRes rs2 (Cl 47 [(.one (.d (.int .u8 (v28.1))))] []) fun v29 => (bif (!v29.1) then (some ((.tup [(.one (sC [])), (.one (iC 0)), (.one (bC false))]), [])) else (H1 (.s1 (w64 (a0 + (1 : Int))) (v28.2.1) a2)))))))) else (some ((.tup [(.one (sC [])), (.one (iC 0)), (.one (bC false))]), []))))))) else (bif (decide (natI o19.toNat < (32 : Int))) then (some ((.tup [(.one (sC [])), (.one (iC 0)), (.one (bC false))]), [])) else (bif (decide (natI o19.toNat > (126 : Int))) then (some ((.tup [(.one (sC [])), (.one (iC 0)), (.one (bC false))]), [])) else (gd (u8ok 1 ([[D.int .u8 (0 : Int)]].set 0 [D.int .u8 (natI o19.toNat)]) a2.isEmpty && true && true && a2.length == a2.length && true && decide ((a2.length + 1) * 1 ≤ 140737488355328)) (H2 (.s0 a0 a1 (a2 ++ [[D.int .u8 (0 : Int)]].set 0 [D.int .u8 (natI o19.toNat)])))))))))) else (some ((.tup [(.one (sC [])), (.one (iC 0)), (.one (bC false))]), [])))
def wqf__0 (Cl : Oracle) (n : Nat) (H2 : Sq1__2 → OR) (a0 : Int) (a1 : RowT [.str]) (a2 : Bool) (a3 : RR) : OR :=
 (qOpt (asI (w64 (a0 + (1 : Int)))) fun o12 => (qOpt (a1.1[o12]?) fun o13 => (tRes rs20 (Cl 48 [(.one (.d (.int .u8 (natI o13.toNat))))] []) fun v14 => (qOpt (asI (w64 (a0 + (2 : Int)))) fun o15 => (qOpt (a1.1[o15]?) fun o16 => (tRes rs20 (Cl 48 [(.one (.d (.int .u8 (natI o16.toNat))))] []) fun v17 => (gd (a2 && true && true) (H2 (.s0 (w64 (a0 + (2 : Int))) a1 [[(.int .u8 (w8 (w8 ((16 : Int) * v14.1) + v17.1)))]])))))))))
def wqf__1 (Cl : Oracle) (n : Nat) (H2 : Sq1__2 → OR) (a0 : Int) (a1 : RowT [.str]) (a2 : RR) : OR :=
 (qOpt (asI (w64 (a0 + (1 : Int)))) fun o30 => (qOpt (a1.1[o30]?) fun o31 => (tRes rs20 (Cl 48 [(.one (.d (.int .u8 (natI o31.toNat))))] []) fun v32 => (qOpt (asI (w64 (a0 + (2 : Int)))) fun o33 => (qOpt (a1.1[o33]?) fun o34 => (tRes rs20 (Cl 48 [(.one (.d (.int .u8 (natI o34.toNat))))] []) fun v35 => (gd (u8ok 1 ([[D.int .u8 (0 : Int)]].set 0 [D.int .u8 (w8 (w8 ((16 : Int) * v32.1) + v35.1))]) a2.isEmpty && true && true && a2.length == a2.length && true && decide ((a2.length + 1) * 1 ≤ 140737488355328)) (H2 (.s0 (w64 (a0 + (2 : Int))) a1 (a2 ++ [[D.int .u8 (0 : Int)]].set 0 [D.int .u8 (w8 (w8 ((16 : Int) * v32.1) + v35.1))]))))))))))
def wq1__2_0 (Cl : Oracle) (n : Nat) (H0 : Sq1__0 → OR) (a0 : Int) (a1 : RowT [.str]) (a2 : RR) : OR :=
 (H0 (.s1 (w64 (a0 + (1 : Int))) a1 a2))
def lq1__2 (Cl : Oracle) (n : Nat) (H0 : Sq1__0 → OR) (m : Nat) : Sq1__2 → OR := Nat.rec (fun _ => none) (fun _ ih s => match s with | .s0 a0 a1 a2 => wq1__2_0 Cl n H0 a0 a1 a2) m
theorem hlq1__2 (Cl : Oracle) (n : Nat) (m0 : Nat) : ∀ (m : Nat) (s : Sq1__2), h29_2 Cl n [] m0 m s.st = lq1__2 Cl n (fun s => h29_0 Cl n [] m0 s.st) m s := by
 intro m
 induction m with
 | zero => intro s; kernel_rfl
 | succ m ih =>
  intro s
  cases s with
  | s0 a0 a1 a2 =>
   have h : h29_2 Cl n [] m0 (m + 1) (sq1__2_0 a0 a1 a2) = wq1__2_0 Cl n (fun s => h29_0 Cl n [] m0 s.st) a0 a1 a2 := by kernel_rfl
   exact h
def lqf_ (Cl : Oracle) (n : Nat) (H0 : Sq1__0 → OR) (m : Nat) : Sqf_ → OR := Nat.rec (fun _ => none) (fun _ ih s => match s with | .s0 a0 a1 a2 a3 => wqf__0 Cl n (lq1__2 Cl n H0 n) a0 a1 a2 a3 | .s1 a0 a1 a2 => wqf__1 Cl n (lq1__2 Cl n H0 n) a0 a1 a2) m
theorem hlqf_ (Cl : Oracle) (n : Nat) (m0 : Nat) : ∀ (m : Nat) (s : Sqf_), h29_1 Cl n [] m0 m s.st = lqf_ Cl n (fun s => h29_0 Cl n [] m0 s.st) m s := by
 intro m
 induction m with
 | zero => intro s; kernel_rfl
 | succ m ih =>
  intro s
  have e2 : (fun s => h29_2 Cl n [] m0 n s.st) = lq1__2 Cl n (fun s => h29_0 Cl n [] m0 s.st) n := funext (hlq1__2 Cl n m0 n)
  cases s with
  | s0 a0 a1 a2 a3 =>
   have h : h29_1 Cl n [] m0 (m + 1) (sqf__0 a0 a1 a2 a3) = wqf__0 Cl n (fun s => h29_2 Cl n [] m0 n s.st) a0 a1 a2 a3 := by kernel_rfl
   rw [e2] at h
   exact h
  | s1 a0 a1 a2 =>
   have h : h29_1 Cl n [] m0 (m + 1) (sqf__1 a0 a1 a2) = wqf__1 Cl n (fun s => h29_2 Cl n [] m0 n s.st) a0 a1 a2 := by kernel_rfl
   rw [e2] at h
   exact h
def lq1__0 (Cl : Oracle) (n : Nat) (m : Nat) : Sq1__0 → OR := Nat.rec (fun _ => none) (fun _ ih s => match s with | .s0 a0 a1 a2 a3 => wq1__0_0 Cl n (lqf_ Cl n ih n) (lq1__2 Cl n ih n) a0 a1 a2 a3 | .s1 a0 a1 a2 => wq1__0_1 Cl n (lqf_ Cl n ih n) (lq1__2 Cl n ih n) a0 a1 a2) m
theorem hlq1__0 (Cl : Oracle) (n : Nat) : ∀ (m : Nat) (s : Sq1__0), h29_0 Cl n [] m s.st = lq1__0 Cl n m s := by
 intro m
 induction m with
 | zero => intro s; kernel_rfl
 | succ m ih =>
  intro s
  have e0 : (fun s => h29_0 Cl n [] m s.st) = lq1__0 Cl n m := funext ih
  have e1 : (fun s => h29_1 Cl n [] m n s.st) = lqf_ Cl n (fun s => h29_0 Cl n [] m s.st) n := funext (hlqf_ Cl n m n)
  have e2 : (fun s => h29_2 Cl n [] m n s.st) = lq1__2 Cl n (fun s => h29_0 Cl n [] m s.st) n := funext (hlq1__2 Cl n m n)
  cases s with
  | s0 a0 a1 a2 a3 =>
   have h : h29_0 Cl n [] (m + 1) (sq1__0_0 a0 a1 a2 a3) = wq1__0_0 Cl n (fun s => h29_1 Cl n [] m n s.st) (fun s => h29_2 Cl n [] m n s.st) a0 a1 a2 a3 := by kernel_rfl
   rw [e1, e2, e0] at h
   exact h
  | s1 a0 a1 a2 =>
   have h : h29_0 Cl n [] (m + 1) (sq1__0_1 a0 a1 a2) = wq1__0_1 Cl n (fun s => h29_1 Cl n [] m n s.st) (fun s => h29_2 Cl n [] m n s.st) a0 a1 a2 := by kernel_rfl
   rw [e1, e2, e0] at h
   exact h
def ttq1_ (Cl : Oracle) (n : Nat) (H0 : Sq1__0 → OR) (x0 : BB) (x1 : Int) : OR :=
 (H0 (.s0 (w64 (x1 + (1 : Int))) (x0, ()) true []))
def tq1_ (Cl : Oracle) (n : Nat) (x0 : BB) (x1 : Int) : OR := ttq1_ Cl n (lq1__0 Cl n n) x0 x1
theorem ptq1_ (Cl : Oracle) (n : Nat) (x0 : BB) (x1 : Int) : evBodyA an29 Cl n k29 [(.one (sC x0)), (.one (iC x1))] [] = tq1_ Cl n x0 x1 := by
 have h : evBodyA an29 Cl n k29 [(.one (sC x0)), (.one (iC x1))] [] = ttq1_ Cl n (fun s => h29_0 Cl n [] n s.st) x0 x1 := by kernel_rfl
 have e0 : (fun s => h29_0 Cl n [] n s.st) = lq1__0 Cl n n := funext (hlq1__0 Cl n n)
 rw [e0] at h
 exact h
def sqe__0_0 : Go.Abs.St := []
def sqe__1_0 (a0 : BB) (a1 : Int) : Go.Abs.St := [((.s 0), ⟨(.one (sC a0)), 0⟩), ((.s 1), ⟨(.one (iC a1)), 0⟩)]
inductive Sqe__0 where | s0
def Sqe__0.st : Sqe__0 → Go.Abs.St | .s0 => sqe__0_0
inductive Sqe__1 where | s0 (a0 : BB) (a1 : Int)
def Sqe__1.st : Sqe__1 → Go.Abs.St | .s0 a0 a1 => sqe__1_0 a0 a1
def wqe__0_0 (Cl : Oracle) (n : Nat) : OR :=
 (some ((.one (sC [])), []))
def wqe__1_0 (Cl : Oracle) (n : Nat) (H0 : Sqe__0 → OR) (a0 : BB) (a1 : Int) : OR :=
 (qOpt (asI a1) fun o2 => (qOpt (a0[o2]?) fun o3 => (bif (natI o3.toNat == (40 : Int)) then (qOpt (asI a1) fun o4 => (qOpt (asI (w64 (a1 + (1 : Int)))) fun o5 => (gd (decide (o4 ≤ o5) && decide (o5 ≤ a0.length)) (some ((.one (sC (List.take (o5 - o4) (List.drop o4 a0)))), []))))) else (bif (natI o3.toNat == (41 : Int)) then (qOpt (asI a1) fun o6 => (qOpt (asI (w64 (a1 + (1 : Int)))) fun o7 => (gd (decide (o6 ≤ o7) && decide (o7 ≤ a0.length)) (some ((.one (sC (List.take (o7 - o6) (List.drop o6 a0)))), []))))) else (bif (natI o3.toNat == (123 : Int)) then (qOpt (asI a1) fun o8 => (qOpt (asI (w64 (a1 + (1 : Int)))) fun o9 => (gd (decide (o8 ≤ o9) && decide (o9 ≤ a0.length)) (some ((.one (sC (List.take (o9 - o8) (List.drop o8 a0)))), []))))) else (bif (natI o3.toNat == (125 : Int)) then (qOpt (asI a1) fun o10 => (qOpt (asI (w64 (a1 + (1 : Int)))) fun o11 => (gd (decide (o10 ≤ o11) && decide (o11 ≤ a0.length)) (some ((.one (sC (List.take (o11 - o10) (List.drop o10 a0)))), []))))) else (bif (natI o3.toNat == (44 : Int)) then (qOpt (asI a1) fun o12 => (qOpt (asI (w64 (a1 + (1 : Int)))) fun o13 => (gd (decide (o12 ≤ o13) && decide (o13 ≤ a0.length)) (some ((.one (sC (List.take (o13 - o12) (List.drop o12 a0)))), []))))) else (bif (natI o3.toNat == (59 : Int)) then (qOpt (asI a1) fun o14 => (qOpt (asI (w64 (a1 + (1 : Int)))) fun o15 => (gd (decide (o14 ≤ o15) && decide (o15 ≤ a0.length)) (some ((.one (sC (List.take (o15 - o14) (List.drop o14 a0)))), []))))) else (bif (natI o3.toNat == (58 : Int)) then (qOpt (asI a1) fun o16 => (qOpt (asI (w64 (a1 + (1 : Int)))) fun o17 => (gd (decide (o16 ≤ o17) && decide (o17 ≤ a0.length)) (some ((.one (sC (List.take (o17 - o16) (List.drop o16 a0)))), []))))) else (bif (natI o3.toNat == (46 : Int)) then (qOpt (asI a1) fun o18 => (qOpt (asI (w64 (a1 + (1 : Int)))) fun o19 => (gd (decide (o18 ≤ o19) && decide (o19 ≤ a0.length)) (some ((.one (sC (List.take (o19 - o18) (List.drop o18 a0)))), []))))) else (bif (natI o3.toNat == (61 : Int)) then (qOpt (asI a1) fun o20 => (qOpt (asI (w64 (a1 + (1 : Int)))) fun o21 => (gd (decide (o20 ≤ o21) && decide (o21 ≤ a0.length)) (some ((.one (sC (List.take (o21 - o20) (List.drop o20 a0)))), []))))) else (bif (natI o3.toNat == (60 : Int)) then (qOpt (asI a1) fun o22 => (qOpt (asI (w64 (a1 + (1 : Int)))) fun o23 => (gd (decide (o22 ≤ o23) && decide (o23 ≤ a0.length)) (some ((.one (sC (List.take (o23 - o22) (List.drop o22 a0)))), []))))) else (bif (natI o3.toNat == (43 : Int)) then (qOpt (asI a1) fun o24 => (qOpt (asI (w64 (a1 + (1 : Int)))) fun o25 => (gd (decide (o24 ≤ o25) && decide (o25 ≤ a0.length)) (some ((.one (sC (List.take (o25 - o24) (List.drop o24 a0)))), []))))) else (bif (natI o3.toNat == (45 : Int)) then (qOpt (asI a1) fun o26 => (qOpt (asI (w64 (a1 + (1 : Int)))) fun o27 => (gd (decide (o26 ≤ o27) && decide (o27 ≤ a0.length)) (some ((.one (sC (List.take (o27 - o26) (List.drop o26 a0)))), []))))) else (bif (natI o3.toNat == (42 : Int)) then (qOpt (asI a1) fun o28 => (qOpt (asI (w64 (a1 + (1 : Int)))) fun o29 => (gd (decide (o28 ≤ o29) && decide (o29 ≤ a0.length)) (some ((.one (sC (List.take (o29 - o28) (List.drop o28 a0)))), []))))) else (bif (natI o3.toNat == (47 : Int)) then (qOpt (asI a1) fun o30 => (qOpt (asI (w64 (a1 + (1 : Int)))) fun o31 => (gd (decide (o30 ≤ o31) && decide (o31 ≤ a0.length)) (some ((.one (sC (List.take (o31 - o30) (List.drop o30 a0)))), []))))) else (H0 (.s0 ))))))))))))))))))
def lqe__0 (Cl : Oracle) (n : Nat) (m : Nat) : Sqe__0 → OR := Nat.rec (fun _ => none) (fun _ ih s => match s with | .s0 => wqe__0_0 Cl n ) m
theorem hlqe__0 (Cl : Oracle) (n : Nat) : ∀ (m : Nat) (s : Sqe__0), h30_0 Cl n [] m s.st = lqe__0 Cl n m s := by
 intro m
 induction m with
 | zero => intro s; kernel_rfl
 | succ m ih =>
  intro s
  cases s with
  | s0 =>
   have h : h30_0 Cl n [] (m + 1) (sqe__0_0 ) = wqe__0_0 Cl n := by kernel_rfl
   exact h
def lqe__1 (Cl : Oracle) (n : Nat) (m : Nat) : Sqe__1 → OR := Nat.rec (fun _ => none) (fun _ ih s => match s with | .s0 a0 a1 => wqe__1_0 Cl n (lqe__0 Cl n n) a0 a1) m
theorem hlqe__1 (Cl : Oracle) (n : Nat) : ∀ (m : Nat) (s : Sqe__1), h30_1 Cl n [] m s.st = lqe__1 Cl n m s := by
 intro m
 induction m with
 | zero => intro s; kernel_rfl
 | succ m ih =>
  intro s
  have e0 : (fun s => h30_0 Cl n [] n s.st) = lqe__0 Cl n n := funext (hlqe__0 Cl n n)
  cases s with
  | s0 a0 a1 =>
   have h : h30_1 Cl n [] (m + 1) (sqe__1_0 a0 a1) = wqe__1_0 Cl n (fun s => h30_0 Cl n [] n s.st) a0 a1 := by kernel_rfl
   rw [e0] at h
   exact h
def ttqe_ (Cl : Oracle) (n : Nat) (H1 : Sqe__1 → OR) (x0 : BB) (x1 : Int) : OR :=
 (bif (decide (w64 (x1 + (1 : Int)) < natI x0.length)) then (qOpt (asI x1) fun o0 => (qOpt (asI (w64 (x1 + (2 : Int)))) fun o1 => (gd (decide (o0 ≤ o1) && decide (o1 ≤ x0.length)) (bif (List.take (o1 - o0) (List.drop o0 x0) == [61, 61]) then (some ((.one (sC (List.take (o1 - o0) (List.drop o0 x0)))), [])) else (bif (List.take (o1 - o0) (List.drop o0 x0) == [45, 62]) then (some ((.one (sC (List.take (o1 - o0) (List.drop o0 x0)))), [])) else (H1 (.s0 x0 x1))))))) else (H1 (.s0 x0 x1)))
def tqe_ (Cl : Oracle) (n : Nat) (x0 : BB) (x1 : Int) : OR := ttqe_ Cl n (lqe__1 Cl n n) x0 x1
theorem ptqe_ (Cl : Oracle) (n : Nat) (x0 : BB) (x1 : Int) : evBodyA an30 Cl n k30 [(.one (sC x0)), (.one (iC x1))] [] = tqe_ Cl n x0 x1 := by
 have h : evBodyA an30 Cl n k30 [(.one (sC x0)), (.one (iC x1))] [] = ttqe_ Cl n (fun s => h30_1 Cl n [] n s.st) x0 x1 := by kernel_rfl
 have e1 : (fun s => h30_1 Cl n [] n s.st) = lqe__1 Cl n n := funext (hlqe__1 Cl n n)
 rw [e1] at h
 exact h
def tqt_ (Cl : Oracle) (n : Nat) (x0 : BB) (x1 : RowT sh7) : OR :=
 (tRes rs6 (Cl 12 [pE] [(bx sh7 x1)]) fun v0 => (bif (v0.1) then (qOpt (asI v0.2.1.2.1) fun o1 => (rA [.str] 1 1 v0.2.1.1.2 (o1) fun v3 => (bif (v3.1 == x0) then (qOpt (asI v0.2.1.2.1) fun o4 => (rA sh3 0 1 v0.2.1.1.2 (o4) fun v6 => (bif (v6.1 == (0 : Int)) then (some ((.one (bC true)), [(bx sh7 (v0.2.1))])) else (qOpt (asI v0.2.1.2.1) fun o7 => (rA sh3 0 1 v0.2.1.1.2 (o7) fun v9 => (some ((.one (bC (v9.1 == (3 : Int)))), [(bx sh7 (v0.2.1))]))))))) else (some ((.one (bC false)), [(bx sh7 (v0.2.1))]))))) else (some ((.one (bC false)), [(bx sh7 (v0.2.1))]))))
theorem ptqt_ (Cl : Oracle) (n : Nat) (x0 : BB) (x1 : RowT sh7) : evBodyA an31 Cl n k31 [pE, (.one (sC x0))] [(bx sh7 x1)] = tqt_ Cl n x0 x1 := by kernel_rfl
def tq19_ (Cl : Oracle) (n : Nat) (x0 : RowT sh7) : OR :=
 (tRes rs6 (Cl 49 [pE] [(bx sh7 x0)]) fun v0 => (bif (!v0.1) then (tRes rs10 (Cl 17 [pE] [(bx sh7 (v0.2.1))]) fun v1 => (some ((.one (sC [])), [(bx sh7 (v1.2.1))]))) else (qOpt (asI (w64 (w64 (v0.2.1.2.1 + (1 : Int)) - (1 : Int)))) fun o2 => (rA [.str] 1 1 v0.2.1.1.2 (o2) fun v4 => (some ((.one (sC (v4.1))), [(bx sh7 (v0.2.1.1, (w64 (v0.2.1.2.1 + (1 : Int))), v0.2.1.2.2))]))))))
theorem ptq19_ (Cl : Oracle) (n : Nat) (x0 : RowT sh7) : evBodyA an32 Cl n k32 [pE] [(bx sh7 x0)] = tq19_ Cl n x0 := by kernel_rfl
def tqu_ (Cl : Oracle) (n : Nat) (x0 : BB) (x1 : RowT sh7) : OR :=
 (tRes rs6 (Cl 13 [pE, (.one (sC x0))] [(bx sh7 x1)]) fun v0 => (bif (!v0.1) then (tRes rs10 (Cl 17 [pE] [(bx sh7 (v0.2.1))]) fun v1 => (some ((.tup []), [(bx sh7 (v1.2.1))]))) else (some ((.tup []), [(bx sh7 (v0.2.1))]))))
theorem ptqu_ (Cl : Oracle) (n : Nat) (x0 : BB) (x1 : RowT sh7) : evBodyA an33 Cl n k33 [pE, (.one (sC x0))] [(bx sh7 x1)] = tqu_ Cl n x0 x1 := by kernel_rfl
def tq1k_ (Cl : Oracle) (n : Nat) (x0 : RowT sh7) : OR :=
 (tRes rs6 (Cl 13 [pE, (.one (sC [117, 110, 105, 116]))] [(bx sh7 x0)]) fun v0 => (bif (v0.1) then (some ((.agg [(iC 0), (sC [])]), [(bx sh7 (v0.2.1))])) else (tRes rs6 (Cl 13 [pE, (.one (sC [105, 110, 116]))] [(bx sh7 (v0.2.1))]) fun v1 => (bif (v1.1) then (some ((.agg [(iC 1), (sC [])]), [(bx sh7 (v1.2.1))])) else (tRes rs6 (Cl 13 [pE, (.one (sC [98, 111, 111, 108]))] [(bx sh7 (v1.2.1))]) fun v2 => (bif (v2.1) then (some ((.agg [(iC 2), (sC [])]), [(bx sh7 (v2.2.1))])) else (tRes rs6 (Cl 13 [pE, (.one (sC [116, 101, 120, 116]))] [(bx sh7 (v2.2.1))]) fun v3 => (bif (v3.1) then (some ((.agg [(iC 3), (sC [])]), [(bx sh7 (v3.2.1))])) else (tRes rs6 (Cl 13 [pE, (.one (sC [108, 105, 115, 116]))] [(bx sh7 (v3.2.1))]) fun v4 => (bif (v4.1) then (some ((.agg [(iC 4), (sC [])]), [(bx sh7 (v4.2.1))])) else (tRes rs10 (Cl 33 [pE, (.one (sC [99, 104, 97, 110]))] [(bx sh7 (v4.2.1))]) fun v5 => (tRes rs15 (Cl 32 [pE] [(bx sh7 (v5.2.1))]) fun v6 => (tRes rs6 (Cl 13 [pE, (.one (sC [46]))] [(bx sh7 (v6.2.1))]) fun v7 => (bif (v7.1) then (g63 (List.length v6.1 + 1) (tRes rs15 (Cl 32 [pE] [(bx sh7 (v7.2.1))]) fun v8 => (g63 ((v6.1 ++ [46]).length + List.length v8.1) (some ((.agg [(iC 5), (sC (v6.1 ++ [46] ++ v8.1))]), [(bx sh7 (v8.2.1))]))))) else (some ((.agg [(iC 5), (sC (v6.1))]), [(bx sh7 (v7.2.1))]))))))))))))))))
theorem ptq1k_ (Cl : Oracle) (n : Nat) (x0 : RowT sh7) : evBodyA an36 Cl n k36 [pE] [(bx sh7 x0)] = tq1k_ Cl n x0 := by kernel_rfl
def tq1a_ (Cl : Oracle) (n : Nat) (x0 : RowT sh7) : OR :=
 (tRes rs10 (Cl 33 [pE, (.one (sC [123]))] [(bx sh7 x0)]) fun v0 => (tagI (v0.2.1.2.2.2.2.2.2.2.1.1) (fun b1 => (tRes rs10 (Cl 51 [pE] [(bx sh7 (v0.2.1.1, (v0.2.1.2.1), (v0.2.1.2.2.1), (v0.2.1.2.2.2.1), (v0.2.1.2.2.2.2.1), v0.2.1.2.2.2.2.2.1, v0.2.1.2.2.2.2.2.2.1, ((.im b1), (v0.2.1.2.2.2.2.2.2.2.1.2)), ()))]) fun v2 => (tRes rs10 (Cl 33 [pE, (.one (sC [125]))] [(bx sh7 (v2.2.1))]) fun v3 => (some ((.one (iC (natI v0.2.1.2.2.2.2.2.2.2.1.2.length))), [(bx sh7 (v3.2.1))]))))) (tRes rs10 (Cl 51 [pE] [(bx sh7 (v0.2.1.1, (v0.2.1.2.1), (v0.2.1.2.2.1), (v0.2.1.2.2.2.1), (v0.2.1.2.2.2.2.1), v0.2.1.2.2.2.2.2.1, v0.2.1.2.2.2.2.2.2.1, (.own, (v0.2.1.2.2.2.2.2.2.2.1.2)), ()))]) fun v4 => (tRes rs10 (Cl 33 [pE, (.one (sC [125]))] [(bx sh7 (v4.2.1))]) fun v5 => (some ((.one (iC (natI v0.2.1.2.2.2.2.2.2.2.1.2.length))), [(bx sh7 (v5.2.1))]))))))
theorem ptq1a_ (Cl : Oracle) (n : Nat) (x0 : RowT sh7) : evBodyA an37 Cl n k37 [pE] [(bx sh7 x0)] = tq1a_ Cl n x0 := by kernel_rfl
def sq9__0_0 (a0 : BB) (a1 : Int) : Go.Abs.St := [((.s 0), ⟨(.one (sC a0)), 0⟩), ((.s 3), ⟨(.one (iC a1)), 0⟩)]
def sq9__1_0 (a0 : BB) : Go.Abs.St := [((.s 0), ⟨(.one (sC a0)), 0⟩)]
inductive Sq9__0 where | s0 (a0 : BB) (a1 : Int)
def Sq9__0.st : Sq9__0 → Go.Abs.St | .s0 a0 a1 => sq9__0_0 a0 a1
inductive Sq9__1 where | s0 (a0 : BB)
def Sq9__1.st : Sq9__1 → Go.Abs.St | .s0 a0 => sq9__1_0 a0
def wq9__0_0 (Cl : Oracle) (n : Nat) (H0 : Sq9__0 → OR) (a0 : BB) (a1 : Int) : OR :=
 (bif (decide (a1 < natI a0.length)) then (qOpt (asI a1) fun o3 => (qOpt (a0[o3]?) fun o4 => (tRes rs2 (Cl 42 [(.one (.d (.int .u8 (natI o4.toNat))))] []) fun v5 => (bif (!v5.1) then (qOpt (asI a1) fun o6 => (qOpt (a0[o6]?) fun o7 => (tRes rs2 (Cl 44 [(.one (.d (.int .u8 (natI o7.toNat))))] []) fun v8 => (bif (!v8.1) then rF else (H0 (.s0 a0 (w64 (a1 + (1 : Int))))))))) else (H0 (.s0 a0 (w64 (a1 + (1 : Int))))))))) else rT)
def wq9__1_0 (Cl : Oracle) (n : Nat) (H0 : Sq9__0 → OR) (a0 : BB) : OR :=
 (H0 (.s0 a0 1))
def lq9__0 (Cl : Oracle) (n : Nat) (m : Nat) : Sq9__0 → OR := Nat.rec (fun _ => none) (fun _ ih s => match s with | .s0 a0 a1 => wq9__0_0 Cl n ih a0 a1) m
theorem hlq9__0 (Cl : Oracle) (n : Nat) : ∀ (m : Nat) (s : Sq9__0), h21_0 Cl n [] m s.st = lq9__0 Cl n m s := by
 intro m
 induction m with
 | zero => intro s; kernel_rfl
 | succ m ih =>
  intro s
  have e0 : (fun s => h21_0 Cl n [] m s.st) = lq9__0 Cl n m := funext ih
  cases s with
  | s0 a0 a1 =>
   have h : h21_0 Cl n [] (m + 1) (sq9__0_0 a0 a1) = wq9__0_0 Cl n (fun s => h21_0 Cl n [] m s.st) a0 a1 := by kernel_rfl
   rw [e0] at h
   exact h
def lq9__1 (Cl : Oracle) (n : Nat) (m : Nat) : Sq9__1 → OR := Nat.rec (fun _ => none) (fun _ ih s => match s with | .s0 a0 => wq9__1_0 Cl n (lq9__0 Cl n n) a0) m
theorem hlq9__1 (Cl : Oracle) (n : Nat) : ∀ (m : Nat) (s : Sq9__1), h21_1 Cl n [] m s.st = lq9__1 Cl n m s := by
 intro m
 induction m with
 | zero => intro s; kernel_rfl
 | succ m ih =>
  intro s
  have e0 : (fun s => h21_0 Cl n [] n s.st) = lq9__0 Cl n n := funext (hlq9__0 Cl n n)
  cases s with
  | s0 a0 =>
   have h : h21_1 Cl n [] (m + 1) (sq9__1_0 a0) = wq9__1_0 Cl n (fun s => h21_0 Cl n [] n s.st) a0 := by kernel_rfl
   rw [e0] at h
   exact h
def ttq9_ (Cl : Oracle) (n : Nat) (H1 : Sq9__1 → OR) (x0 : BB) : OR :=
 (bif (decide (natI x0.length < (1 : Int))) then rF else (bif (decide (natI x0.length > (12 : Int))) then rF else (qOpt (x0[Int.toNat (0 : Int)]?) fun o0 => (tRes rs2 (Cl 42 [(.one (.d (.int .u8 (natI o0.toNat))))] []) fun v1 => (bif (!v1.1) then rF else (tRes rs2 (Cl 43 [(.one (sC x0))] []) fun v2 => (bif (v2.1) then rF else (H1 (.s0 x0)))))))))
def tq9_ (Cl : Oracle) (n : Nat) (x0 : BB) : OR := ttq9_ Cl n (lq9__1 Cl n n) x0
theorem ptq9_ (Cl : Oracle) (n : Nat) (x0 : BB) : evBodyA an21 Cl n k21 [(.one (sC x0))] [] = tq9_ Cl n x0 := by
 have h : evBodyA an21 Cl n k21 [(.one (sC x0))] [] = ttq9_ Cl n (fun s => h21_1 Cl n [] n s.st) x0 := by kernel_rfl
 have e1 : (fun s => h21_1 Cl n [] n s.st) = lq9__1 Cl n n := funext (hlq9__1 Cl n n)
 rw [e1] at h
 exact h
def tq1b_ (Cl : Oracle) (n : Nat) (x0 : Bool) : OR :=
 (tRes rs0 (Cl 63 [(.one (bC x0))] []) fun v0 => (some ((.one (sC (v0.1))), [])))
theorem ptq1b_ (Cl : Oracle) (n : Nat) (x0 : Bool) : evBodyA an54 Cl n k54 [(.one (bC x0))] [] = tq1b_ Cl n x0 := by kernel_rfl
def sq6__0_0 (a0 : BB) (a1 : RR) (a2 : Int) : Go.Abs.St := [((.s 0), ⟨(.one (sC a0)), 0⟩), ((.s 3), ⟨(.one (lC .own 1 a1)), 0⟩), ((.s 4), ⟨(.one (iC a2)), 0⟩)]
def sq6__1_0 (a0 : BB) (a1 : RR) (a2 : Int) : Go.Abs.St := [((.s 0), ⟨(.one (sC a0)), 0⟩), ((.s 3), ⟨(.one (lC .own 1 a1)), 0⟩), ((.s 4), ⟨(.one (iC a2)), 0⟩)]
inductive Sq6__0 where | s0 (a0 : BB) (a1 : RR) (a2 : Int)
def Sq6__0.st : Sq6__0 → Go.Abs.St | .s0 a0 a1 a2 => sq6__0_0 a0 a1 a2
inductive Sq6__1 where | s0 (a0 : BB) (a1 : RR) (a2 : Int)
def Sq6__1.st : Sq6__1 → Go.Abs.St | .s0 a0 a1 a2 => sq6__1_0 a0 a1 a2
def wq6__0_0 (Cl : Oracle) (n : Nat) (H1 : Sq6__1 → OR) (a0 : BB) (a1 : RR) (a2 : Int) : OR :=
 (bif (decide (a2 < natI a0.length)) then (qOpt (asI a2) fun o0 => (qOpt (a0[o0]?) fun o1 => (bif (natI o1.toNat == (34 : Int)) then (gd (u8ok 1 (([[D.int .u8 (0 : Int)], [D.int .u8 (0 : Int)]].set 0 [D.int .u8 (92 : Int)]).set 1 [D.int .u8 (natI o1.toNat)]) a1.isEmpty && true && true && a1.length == a1.length && true && decide ((a1.length + 2) * 1 ≤ 140737488355328)) (H1 (.s0 a0 (a1 ++ ([[D.int .u8 (0 : Int)], [D.int .u8 (0 : Int)]].set 0 [D.int .u8 (92 : Int)]).set 1 [D.int .u8 (natI o1.toNat)]) a2))) else (bif (natI o1.toNat == (92 : Int)) then (gd (u8ok 1 (([[D.int .u8 (0 : Int)], [D.int .u8 (0 : Int)]].set 0 [D.int .u8 (92 : Int)]).set 1 [D.int .u8 (natI o1.toNat)]) a1.isEmpty && true && true && a1.length == a1.length && true && decide ((a1.length + 2) * 1 ≤ 140737488355328)) (H1 (.s0 a0 (a1 ++ ([[D.int .u8 (0 : Int)], [D.int .u8 (0 : Int)]].set 0 [D.int .u8 (92 : Int)]).set 1 [D.int .u8 (natI o1.toNat)]) a2))) else (bif (natI o1.toNat == (10 : Int)) then (gd (u8ok 1 (([[D.int .u8 (0 : Int)], [D.int .u8 (0 : Int)]].set 0 [D.int .u8 (92 : Int)]).set 1 [D.int .u8 (110 : Int)]) a1.isEmpty && true && true && a1.length == a1.length && true && decide ((a1.length + 2) * 1 ≤ 140737488355328)) (H1 (.s0 a0 (a1 ++ ([[D.int .u8 (0 : Int)], [D.int .u8 (0 : Int)]].set 0 [D.int .u8 (92 : Int)]).set 1 [D.int .u8 (110 : Int)]) a2))) else (bif (decide (natI o1.toNat < (32 : Int))) then (qOpt (asI ((natI o1.toNat).fdiv ((2 : Int) ^ min (Int.toNat (4 : Int)) IntKind.u8.bits))) fun o2 => (qOpt (([48, 49, 50, 51, 52, 53, 54, 55, 56, 57, 97, 98, 99, 100, 101, 102] : BB)[o2]?) fun o3 => (qOpt (([48, 49, 50, 51, 52, 53, 54, 55, 56, 57, 97, 98, 99, 100, 101, 102] : BB)[(w8 (natI (BitVec.ofInt IntKind.u8.bits (natI o1.toNat) &&& BitVec.ofInt IntKind.u8.bits (15 : Int)).toNat)).toNat]?) fun o4 => (gd (u8ok 1 (((([[D.int .u8 (0 : Int)], [D.int .u8 (0 : Int)], [D.int .u8 (0 : Int)], [D.int .u8 (0 : Int)]].set 0 [D.int .u8 (92 : Int)]).set 1 [D.int .u8 (120 : Int)]).set 2 [D.int .u8 (natI o3.toNat)]).set 3 [D.int .u8 (natI o4.toNat)]) a1.isEmpty && true && true && a1.length == a1.length && true && decide ((a1.length + 4) * 1 ≤ 140737488355328)) (H1 (.s0 a0 (a1 ++ ((([[D.int .u8 (0 : Int)], [D.int .u8 (0 : Int)], [D.int .u8 (0 : Int)], [D.int .u8 (0 : Int)]].set 0 [D.int .u8 (92 : Int)]).set 1 [D.int .u8 (120 : Int)]).set 2 [D.int .u8 (natI o3.toNat)]).set 3 [D.int .u8 (natI o4.toNat)]) a2)))))) else (bif (decide (natI o1.toNat > (126 : Int))) then (qOpt (asI ((natI o1.toNat).fdiv ((2 : Int) ^ min (Int.toNat (4 : Int)) IntKind.u8.bits))) fun o5 => (qOpt (([48, 49, 50, 51, 52, 53, 54, 55, 56, 57, 97, 98, 99, 100, 101, 102] : BB)[o5]?) fun o6 => (qOpt (([48, 49, 50, 51, 52, 53, 54, 55, 56, 57, 97, 98, 99, 100, 101, 102] : BB)[(w8 (natI (BitVec.ofInt IntKind.u8.bits (natI o1.toNat) &&& BitVec.ofInt IntKind.u8.bits (15 : Int)).toNat)).toNat]?) fun o7 => (gd (u8ok 1 (((([[D.int .u8 (0 : Int)], [D.int .u8 (0 : Int)], [D.int .u8 (0 : Int)], [D.int .u8 (0 : Int)]].set 0 [D.int .u8 (92 : Int)]).set 1 [D.int .u8 (120 : Int)]).set 2 [D.int .u8 (natI o6.toNat)]).set 3 [D.int .u8 (natI o7.toNat)]) a1.isEmpty && true && true && a1.length == a1.length && true && decide ((a1.length + 4) * 1 ≤ 140737488355328)) (H1 (.s0 a0 (a1 ++ ((([[D.int .u8 (0 : Int)], [D.int .u8 (0 : Int)], [D.int .u8 (0 : Int)], [D.int .u8 (0 : Int)]].set 0 [D.int .u8 (92 : Int)]).set 1 [D.int .u8 (120 : Int)]).set 2 [D.int .u8 (natI o6.toNat)]).set 3 [D.int .u8 (natI o7.toNat)]) a2)))))) else (gd (u8ok 1 ([[D.int .u8 (0 : Int)]].set 0 [D.int .u8 (natI o1.toNat)]) a1.isEmpty && true && true && a1.length == a1.length && true && decide ((a1.length + 1) * 1 ≤ 140737488355328)) (H1 (.s0 a0 (a1 ++ [[D.int .u8 (0 : Int)]].set 0 [D.int .u8 (natI o1.toNat)]) a2)))))))))) else (gd (u8ok 1 ([[D.int .u8 (0 : Int)]].set 0 [D.int .u8 (34 : Int)]) a1.isEmpty && true && true && a1.length == a1.length && true && decide ((a1.length + 1) * 1 ≤ 140737488355328)) (qOpt (toBytes (a1 ++ [[D.int .u8 (0 : Int)]].set 0 [D.int .u8 (34 : Int)])) fun o8 => (some ((.one (sC o8)), [])))))
def wq6__1_0 (Cl : Oracle) (n : Nat) (H0 : Sq6__0 → OR) (a0 : BB) (a1 : RR) (a2 : Int) : OR :=
 (H0 (.s0 a0 a1 (w64 (a2 + (1 : Int)))))
def lq6__1 (Cl : Oracle) (n : Nat) (H0 : Sq6__0 → OR) (m : Nat) : Sq6__1 → OR := Nat.rec (fun _ => none) (fun _ ih s => match s with | .s0 a0 a1 a2 => wq6__1_0 Cl n H0 a0 a1 a2) m
theorem hlq6__1 (Cl : Oracle) (n : Nat) (m0 : Nat) : ∀ (m : Nat) (s : Sq6__1), h55_1 Cl n [] m0 m s.st = lq6__1 Cl n (fun s => h55_0 Cl n [] m0 s.st) m s := by
 intro m
 induction m with
 | zero => intro s; kernel_rfl
 | succ m ih =>
  intro s
  cases s with
  | s0 a0 a1 a2 =>
   have h : h55_1 Cl n [] m0 (m + 1) (sq6__1_0 a0 a1 a2) = wq6__1_0 Cl n (fun s => h55_0 Cl n [] m0 s.st) a0 a1 a2 := by kernel_rfl
   exact h
def lq6__0 (Cl : Oracle) (n : Nat) (m : Nat) : Sq6__0 → OR := Nat.rec (fun _ => none) (fun _ ih s => match s with | .s0 a0 a1 a2 => wq6__0_0 Cl n (lq6__1 Cl n ih n) a0 a1 a2) m
theorem hlq6__0 (Cl : Oracle) (n : Nat) : ∀ (m : Nat) (s : Sq6__0), h55_0 Cl n [] m s.st = lq6__0 Cl n m s := by
 intro m
 induction m with
 | zero => intro s; kernel_rfl
 | succ m ih =>
  intro s
  have e0 : (fun s => h55_0 Cl n [] m s.st) = lq6__0 Cl n m := funext ih
  have e1 : (fun s => h55_1 Cl n [] m n s.st) = lq6__1 Cl n (fun s => h55_0 Cl n [] m s.st) n := funext (hlq6__1 Cl n m n)
  cases s with
  | s0 a0 a1 a2 =>
   have h : h55_0 Cl n [] (m + 1) (sq6__0_0 a0 a1 a2) = wq6__0_0 Cl n (fun s => h55_1 Cl n [] m n s.st) a0 a1 a2 := by kernel_rfl
   rw [e1, e0] at h
   exact h
def ttq6_ (Cl : Oracle) (n : Nat) (H0 : Sq6__0 → OR) (x0 : BB) : OR :=
 (H0 (.s0 x0 [[(.int .u8 34)]] 0))
def tq6_ (Cl : Oracle) (n : Nat) (x0 : BB) : OR := ttq6_ Cl n (lq6__0 Cl n n) x0
theorem ptq6_ (Cl : Oracle) (n : Nat) (x0 : BB) : evBodyA an55 Cl n k55 [(.one (sC x0))] [] = tq6_ Cl n x0 := by
 have h : evBodyA an55 Cl n k55 [(.one (sC x0))] [] = ttq6_ Cl n (fun s => h55_0 Cl n [] n s.st) x0 := by kernel_rfl
 have e0 : (fun s => h55_0 Cl n [] n s.st) = lq6__0 Cl n n := funext (hlq6__0 Cl n n)
 rw [e0] at h
 exact h
def sqm__0_0 : Go.Abs.St := []
inductive Sqm__0 where | s0
def Sqm__0.st : Sqm__0 → Go.Abs.St | .s0 => sqm__0_0
def wqm__0_0 (Cl : Oracle) (n : Nat) : OR :=
 rF
def lqm__0 (Cl : Oracle) (n : Nat) (m : Nat) : Sqm__0 → OR := Nat.rec (fun _ => none) (fun _ ih s => match s with | .s0 => wqm__0_0 Cl n ) m
theorem hlqm__0 (Cl : Oracle) (n : Nat) : ∀ (m : Nat) (s : Sqm__0), h43_0 Cl n [] m s.st = lqm__0 Cl n m s := by
 intro m
 induction m with
 | zero => intro s; kernel_rfl
 | succ m ih =>
  intro s
  cases s with
  | s0 =>
   have h : h43_0 Cl n [] (m + 1) (sqm__0_0 ) = wqm__0_0 Cl n := by kernel_rfl
   exact h
def ttqm_ (Cl : Oracle) (n : Nat) (H0 : Sqm__0 → OR) (x0 : BB) : OR :=
 (bif (x0 == [97, 110, 100]) then rT else (bif (x0 == [97, 115]) then rT else (bif (x0 == [97, 116]) then rT else (bif (x0 == [98, 111, 111, 108]) then rT else (bif (x0 == [99, 97, 108, 108]) then rT else (bif (x0 == [99, 104, 97, 110]) then rT else (bif (x0 == [100, 114, 111, 112]) then rT else (bif (x0 == [101, 108, 115, 101]) then rT else (bif (x0 == [101, 109, 112, 116, 121]) then rT else (bif (x0 == [101, 110, 100]) then rT else (bif (x0 == [102, 97, 105, 108]) then rT else (bif (x0 == [102, 97, 108, 115, 101]) then rT else (bif (x0 == [102, 114, 111, 109]) then rT else (bif (x0 == [104, 101, 97, 114]) then rT else (bif (x0 == [105, 102]) then rT else (bif (x0 == [105, 110, 116]) then rT else (bif (x0 == [106, 111, 105, 110]) then rT else (bif (x0 == [108, 101, 110]) then rT else (bif (x0 == [108, 101, 116]) then rT else (bif (x0 == [108, 105, 115, 116]) then rT else (bif (x0 == [108, 111, 99, 97, 108]) then rT else (bif (x0 == [108, 111, 115, 116]) then rT else (bif (x0 == [109, 111, 100]) then rT else (bif (x0 == [110, 111, 116]) then rT else (bif (x0 == [111, 112, 101, 110]) then rT else (bif (x0 == [111, 114]) then rT else (bif (x0 == [112, 114, 105, 110, 116]) then rT else (bif (x0 == [112, 114, 111, 99]) then rT else (bif (x0 == [112, 114, 111, 116, 111, 99, 111, 108]) then rT else (bif (x0 == [112, 117, 115, 104]) then rT else (bif (x0 == [114, 111, 108, 101, 115]) then rT else (bif (x0 == [115, 97, 121]) then rT else (bif (x0 == [115, 112, 97, 119, 110]) then rT else (bif (x0 == [115, 116, 111, 112]) then rT else (bif (x0 == [116, 101, 120, 116]) then rT else (bif (x0 == [116, 111]) then rT else (bif (x0 == [116, 114, 117, 101]) then rT else (bif (x0 == [117, 110, 105, 116]) then rT else (bif (x0 == [119, 105, 116, 104]) then rT else (H0 (.s0 )))))))))))))))))))))))))))))))))))))))))
def tqm_ (Cl : Oracle) (n : Nat) (x0 : BB) : OR := ttqm_ Cl n (lqm__0 Cl n n) x0
theorem ptqm_ (Cl : Oracle) (n : Nat) (x0 : BB) : evBodyA an43 Cl n k43 [(.one (sC x0))] [] = tqm_ Cl n x0 := by
 have h : evBodyA an43 Cl n k43 [(.one (sC x0))] [] = ttqm_ Cl n (fun s => h43_0 Cl n [] n s.st) x0 := by kernel_rfl
 have e0 : (fun s => h43_0 Cl n [] n s.st) = lqm__0 Cl n n := funext (hlqm__0 Cl n n)
 rw [e0] at h
 exact h
def tqh_ (Cl : Oracle) (n : Nat) (x0 : Int) : OR :=
 (some ((.one (bC (x0 != (10 : Int)))), []))
theorem ptqh_ (Cl : Oracle) (n : Nat) (x0 : Int) : evBodyA an25 Cl n k25 [(.one (.d (.int .u8 x0)))] [] = tqh_ Cl n x0 := by kernel_rfl
def tqd_ (Cl : Oracle) (n : Nat) (x0 : Int) : OR :=
 (tRes rs2 (Cl 26 [(.one (.d (.int .u8 x0)))] []) fun v0 => (bif (v0.1) then rT else (tRes rs2 (Cl 22 [(.one (.d (.int .u8 x0)))] []) fun v1 => (some ((.one (bC (v1.1))), [])))))
theorem ptqd_ (Cl : Oracle) (n : Nat) (x0 : Int) : evBodyA an27 Cl n k27 [(.one (.d (.int .u8 x0)))] [] = tqd_ Cl n x0 := by kernel_rfl
def tqf_ (Cl : Oracle) (n : Nat) (x0 : Int) (x1 : RowT [.str]) : OR :=
 (bif (decide (x0 < natI (List.length x1.1))) then (qOpt (asI x0) fun o0 => (qOpt (x1.1[o0]?) fun o1 => (some ((.one (.d (.int .u8 (natI o1.toNat)))), [(bx [.str] x1)])))) else (some ((.one (.d (.int .u8 0))), [(bx [.str] x1)])))
theorem ptqf_ (Cl : Oracle) (n : Nat) (x0 : Int) (x1 : RowT [.str]) : evBodyA an46 Cl n k46 [(.one (iC x0)), pE] [(bx [.str] x1)] = tqf_ Cl n x0 x1 := by kernel_rfl
def tq1c_ (Cl : Oracle) (n : Nat) (x0 : Int) : OR :=
 (tRes rs2 (Cl 22 [(.one (.d (.int .u8 x0)))] []) fun v0 => (bif (v0.1) then rT else (bif (decide (x0 ≥ (97 : Int))) then (some ((.one (bC (decide (x0 ≤ (102 : Int))))), [])) else rF)))
theorem ptq1c_ (Cl : Oracle) (n : Nat) (x0 : Int) : evBodyA an47 Cl n k47 [(.one (.d (.int .u8 x0)))] [] = tq1c_ Cl n x0 := by kernel_rfl
def tq1d_ (Cl : Oracle) (n : Nat) (x0 : Int) : OR :=
 (tRes rs2 (Cl 22 [(.one (.d (.int .u8 x0)))] []) fun v0 => (bif (v0.1) then (some ((.one (.d (.int .u8 (w8 (x0 - (48 : Int)))))), [])) else (some ((.one (.d (.int .u8 (w8 (w8 (x0 - (97 : Int)) + (10 : Int)))))), []))))
theorem ptq1d_ (Cl : Oracle) (n : Nat) (x0 : Int) : evBodyA an48 Cl n k48 [(.one (.d (.int .u8 x0)))] [] = tq1d_ Cl n x0 := by kernel_rfl
def tq1e_ (Cl : Oracle) (n : Nat) (x0 : RowT sh7) : OR :=
 (tRes rs6 (Cl 12 [pE] [(bx sh7 x0)]) fun v0 => (bif (v0.1) then (qOpt (asI v0.2.1.2.1) fun o1 => (rA sh3 0 1 v0.2.1.1.2 (o1) fun v3 => (bif (v3.1 == (0 : Int)) then (qOpt (asI v0.2.1.2.1) fun o4 => (rA [.str] 1 1 v0.2.1.1.2 (o4) fun v6 => (tRes rs2 (Cl 21 [(.one (sC (v6.1)))] []) fun v7 => (some ((.one (bC (v7.1))), [(bx sh7 (v0.2.1))]))))) else (some ((.one (bC false)), [(bx sh7 (v0.2.1))]))))) else (some ((.one (bC false)), [(bx sh7 (v0.2.1))]))))
theorem ptq1e_ (Cl : Oracle) (n : Nat) (x0 : RowT sh7) : evBodyA an49 Cl n k49 [pE] [(bx sh7 x0)] = tq1e_ Cl n x0 := by kernel_rfl
def sq4__0_0 (a0 : RowT sh7) : Go.Abs.St := [((.s 0), ⟨pE, 0⟩), ((.r (.e 0)), ⟨(.one (iC 8)), 0⟩), ((.b (.e 0) 0), ⟨(.one (lC (.im a0.1.1) 3 a0.1.2)), 0⟩), ((.b (.e 0) 1), ⟨(.one (iC a0.2.1)), 0⟩), ((.b (.e 0) 2), ⟨(.one (iC a0.2.2.1)), 0⟩), ((.b (.e 0) 3), ⟨(.one (iC a0.2.2.2.1)), 0⟩), ((.b (.e 0) 4), ⟨(.one (sC a0.2.2.2.2.1)), 0⟩), ((.b (.e 0) 5), ⟨(.one (lC a0.2.2.2.2.2.1.1 3 a0.2.2.2.2.2.1.2)), 0⟩), ((.b (.e 0) 6), ⟨(.one (lC a0.2.2.2.2.2.2.1.1 6 a0.2.2.2.2.2.2.1.2)), 0⟩), ((.b (.e 0) 7), ⟨(.one (lC a0.2.2.2.2.2.2.2.1.1 10 a0.2.2.2.2.2.2.2.1.2)), 0⟩)]
def sq4__1_0 (a0 : RowT sh7) (a1 : Int) (a2 : RowT sh15) : Go.Abs.St := [((.s 0), ⟨pE, 0⟩), ((.r (.e 0)), ⟨(.one (iC 8)), 0⟩), ((.b (.e 0) 0), ⟨(.one (lC (.im a0.1.1) 3 a0.1.2)), 0⟩), ((.b (.e 0) 1), ⟨(.one (iC a0.2.1)), 0⟩), ((.b (.e 0) 2), ⟨(.one (iC a0.2.2.1)), 0⟩), ((.b (.e 0) 3), ⟨(.one (iC a0.2.2.2.1)), 0⟩), ((.b (.e 0) 4), ⟨(.one (sC a0.2.2.2.2.1)), 0⟩), ((.b (.e 0) 5), ⟨(.one (lC a0.2.2.2.2.2.1.1 3 a0.2.2.2.2.2.1.2)), 0⟩), ((.b (.e 0) 6), ⟨(.one (lC a0.2.2.2.2.2.2.1.1 6 a0.2.2.2.2.2.2.1.2)), 0⟩), ((.b (.e 0) 7), ⟨(.one (lC a0.2.2.2.2.2.2.2.1.1 10 a0.2.2.2.2.2.2.2.1.2)), 0⟩), ((.s 2), ⟨(.one (iC a1)), 0⟩), ((.r (.l 3)), ⟨(.one (iC 10)), 1⟩), ((.b (.l 3) 0), ⟨(.one (iC a2.1)), 0⟩), ((.b (.l 3) 1), ⟨(.one (sC a2.2.1)), 0⟩), ((.b (.l 3) 2), ⟨(.one (sC a2.2.2.1)), 0⟩), ((.b (.l 3) 3), ⟨(.one (sC a2.2.2.2.1)), 0⟩), ((.b (.l 3) 4), ⟨(.one (sC a2.2.2.2.2.1)), 0⟩), ((.b (.l 3) 5), ⟨(.one (iC a2.2.2.2.2.2.1)), 0⟩), ((.b (.l 3) 6), ⟨(.one (lC (.im a2.2.2.2.2.2.2.1.1) 1 a2.2.2.2.2.2.2.1.2)), 0⟩), ((.b (.l 3) 7), ⟨(.one (lC (.im a2.2.2.2.2.2.2.2.1.1) 3 a2.2.2.2.2.2.2.2.1.2)), 0⟩), ((.b (.l 3) 8), ⟨(.one (lC (.im a2.2.2.2.2.2.2.2.2.1.1) 3 a2.2.2.2.2.2.2.2.2.1.2)), 0⟩), ((.b (.l 3) 9), ⟨(.one (iC a2.2.2.2.2.2.2.2.2.2.1)), 0⟩), ((.s 3), ⟨(.one (.ptr (.l 3) 1 0)), 0⟩)]
inductive Sq4__0 where | s0 (a0 : RowT sh7)
def Sq4__0.st : Sq4__0 → Go.Abs.St | .s0 a0 => sq4__0_0 a0
inductive Sq4__1 where | s0 (a0 : RowT sh7) (a1 : Int) (a2 : RowT sh15)
def Sq4__1.st : Sq4__1 → Go.Abs.St | .s0 a0 a1 a2 => sq4__1_0 a0 a1 a2
def wq4__0_0 (Cl : Oracle) (n : Nat) (x0 : RowT sh7) (H1 : Sq4__1 → OR) (a0 : RowT sh7) : OR :=
 (tRes rs6 (Cl 18 [pE] [(bx sh7 a0)]) fun v0 => (bif (!v0.1) then (tagI (v0.2.1.2.2.2.2.2.2.2.1.1) (fun b1 => (gd (b1 && true && true) (H1 (.s0 (v0.2.1.1, (v0.2.1.2.1), (v0.2.1.2.2.1), (v0.2.1.2.2.2.1), (v0.2.1.2.2.2.2.1), v0.2.1.2.2.2.2.2.1, v0.2.1.2.2.2.2.2.2.1, (.own, [[(.int .i64 0), (.str []), (.str []), (.str []), (.str []), (.int .i64 (-1)), (.sl (.im true) 1 []), (.sl (.im true) 3 []), (.sl (.im true) 3 []), (.int .i64 (-1))]]), ()) (natI v0.2.1.2.2.2.2.2.2.2.1.2.length) (0, [], [], [], [], (-1), (true, []), (true, []), (true, []), (-1), ()))))) (gd (v0.2.1.2.2.2.2.2.2.2.1.2.length == v0.2.1.2.2.2.2.2.2.2.1.2.length && true && decide ((v0.2.1.2.2.2.2.2.2.2.1.2.length + 1) * 160 ≤ 140737488355328)) (H1 (.s0 (v0.2.1.1, (v0.2.1.2.1), (v0.2.1.2.2.1), (v0.2.1.2.2.2.1), (v0.2.1.2.2.2.2.1), v0.2.1.2.2.2.2.2.1, v0.2.1.2.2.2.2.2.2.1, (.own, (v0.2.1.2.2.2.2.2.2.2.1.2 ++ [[D.int .i64 (0 : Int), D.str [], D.str [], D.str [], D.str [], D.int .i64 (0 : Int), D.sl (.im true) 1 [], D.sl (.im true) 3 [], D.sl (.im true) 3 [], D.int .i64 (0 : Int)]].set 0 [D.int .i64 (0 : Int), D.str [], D.str [], D.str [], D.str [], D.int .i64 (-1 : Int), D.sl (.im true) 1 [], D.sl (.im true) 3 [], D.sl (.im true) 3 [], D.int .i64 (-1 : Int)])), ()) (natI v0.2.1.2.2.2.2.2.2.2.1.2.length) (0, [], [], [], [], (-1), (true, []), (true, []), (true, []), (-1), ()))))) else (some ((.tup []), [(bx sh7 (v0.2.1))]))))
def wq4__1_0 (Cl : Oracle) (n : Nat) (x0 : RowT sh7) (H0 : Sq4__0 → OR) (a0 : RowT sh7) (a1 : Int) (a2 : RowT sh15) : OR :=
 (tRes rs21 (Cl 59 [pE, (.one (.ptr (.e 1) 0 0))] [(bx sh7 a0), (bx sh15 a2)]) fun v2 => (bif (v2.1) then (tagI (v2.2.1.2.2.2.2.2.2.2.1.1) (fun b3 => (qOpt (asI a1) fun o4 => (qOpt (v2.2.1.2.2.2.2.2.2.2.1.2[o4]?) fun o5 => none))) (qOpt (asI a1) fun o6 => (gd (decide (o6 < v2.2.1.2.2.2.2.2.2.2.1.2.length)) (qOpt (v2.2.1.2.2.2.2.2.2.2.1.2[0 + o6]?) fun o7 => (gd (decide (0 + 10 ≤ o7.length) && true) (tRow sh15 (List.take 10 (List.drop 0 o7)) fun v8 => (H0 (.s0 (v2.2.1.1, (v2.2.1.2.1), (v2.2.1.2.2.1), (v2.2.1.2.2.2.1), (v2.2.1.2.2.2.2.1), v2.2.1.2.2.2.2.2.1, v2.2.1.2.2.2.2.2.2.1, (.own, (rset (rset (rset (rset (rset (rset (rset (rset (rset (rset v2.2.1.2.2.2.2.2.2.2.1.2 (0 + o6) 0 (D.int .i64 v2.2.2.1.1)) (0 + o6) 1 (D.str v2.2.2.1.2.1)) (0 + o6) 2 (D.str v2.2.2.1.2.2.1)) (0 + o6) 3 (D.str v2.2.2.1.2.2.2.1)) (0 + o6) 4 (D.str v2.2.2.1.2.2.2.2.1)) (0 + o6) 5 (D.int .i64 v2.2.2.1.2.2.2.2.2.1)) (0 + o6) 6 (D.sl (.im v2.2.2.1.2.2.2.2.2.2.1.1) 1 v2.2.2.1.2.2.2.2.2.2.1.2)) (0 + o6) 7 (D.sl (.im v2.2.2.1.2.2.2.2.2.2.2.1.1) 3 v2.2.2.1.2.2.2.2.2.2.2.1.2)) (0 + o6) 8 (D.sl (.im v2.2.2.1.2.2.2.2.2.2.2.2.1.1) 3 v2.2.2.1.2.2.2.2.2.2.2.2.1.2)) (0 + o6) 9 (D.int .i64 (w64 (a1 + (1 : Int)))))), ()))))))))) else (tRes rs22 (Cl 60 [pE, (.one (.ptr (.e 1) 0 0))] [(bx sh7 (v2.2.1)), (bx sh15 (v2.2.2.1))]) fun v9 => (tagI (v9.2.1.2.2.2.2.2.2.2.1.1) (fun b10 => (qOpt (asI a1) fun o11 => (qOpt (v9.2.1.2.2.2.2.2.2.2.1.2[o11]?) fun o12 => none))) (qOpt (asI a1) fun o13 => (gd (decide (o13 < v9.2.1.2.2.2.2.2.2.2.1.2.length)) (qOpt (v9.2.1.2.2.2.2.2.2.2.1.2[0 + o13]?) fun o14 => (gd (decide (0 + 10 ≤ o14.length) && true) (tRow sh15 (List.take 10 (List.drop 0 o14)) fun v15 => (some ((.tup []), [(bx sh7 (v9.2.1.1, (v9.2.1.2.1), (v9.2.1.2.2.1), (v9.2.1.2.2.2.1), (v9.2.1.2.2.2.2.1), v9.2.1.2.2.2.2.2.1, v9.2.1.2.2.2.2.2.2.1, (.own, (rset (rset (rset (rset (rset (rset (rset (rset (rset (rset v9.2.1.2.2.2.2.2.2.2.1.2 (0 + o13) 0 (D.int .i64 v9.2.2.1.1)) (0 + o13) 1 (D.str v9.2.2.1.2.1)) (0 + o13) 2 (D.str v9.2.2.1.2.2.1)) (0 + o13) 3 (D.str v9.2.2.1.2.2.2.1)) (0 + o13) 4 (D.str v9.2.2.1.2.2.2.2.1)) (0 + o13) 5 (D.int .i64 v9.2.2.1.2.2.2.2.2.1)) (0 + o13) 6 (D.sl (.im v9.2.2.1.2.2.2.2.2.2.1.1) 1 v9.2.2.1.2.2.2.2.2.2.1.2)) (0 + o13) 7 (D.sl (.im v9.2.2.1.2.2.2.2.2.2.2.1.1) 3 v9.2.2.1.2.2.2.2.2.2.2.1.2)) (0 + o13) 8 (D.sl (.im v9.2.2.1.2.2.2.2.2.2.2.2.1.1) 3 v9.2.2.1.2.2.2.2.2.2.2.2.1.2)) (0 + o13) 9 (D.int .i64 v9.2.2.1.2.2.2.2.2.2.2.2.2.1))), ()))])))))))))))
def lq4__1 (Cl : Oracle) (n : Nat) (x0 : RowT sh7) (H0 : Sq4__0 → OR) (m : Nat) : Sq4__1 → OR := Nat.rec (fun _ => none) (fun _ ih s => match s with | .s0 a0 a1 a2 => wq4__1_0 Cl n x0 H0 a0 a1 a2) m
theorem hlq4__1 (Cl : Oracle) (n : Nat) (x0 : RowT sh7) (m0 : Nat) : ∀ (m : Nat) (s : Sq4__1), h51_1 Cl n [(bx sh7 x0)] m0 m s.st = lq4__1 Cl n x0 (fun s => h51_0 Cl n [(bx sh7 x0)] m0 s.st) m s := by
 intro m
 induction m with
 | zero => intro s; kernel_rfl
 | succ m ih =>
  intro s
  cases s with
  | s0 a0 a1 a2 =>
   have h : h51_1 Cl n [(bx sh7 x0)] m0 (m + 1) (sq4__1_0 a0 a1 a2) = wq4__1_0 Cl n x0 (fun s => h51_0 Cl n [(bx sh7 x0)] m0 s.st) a0 a1 a2 := by kernel_rfl
   exact h
def lq4__0 (Cl : Oracle) (n : Nat) (x0 : RowT sh7) (m : Nat) : Sq4__0 → OR := Nat.rec (fun _ => none) (fun _ ih s => match s with | .s0 a0 => wq4__0_0 Cl n x0 (lq4__1 Cl n x0 ih n) a0) m
theorem hlq4__0 (Cl : Oracle) (n : Nat) (x0 : RowT sh7) : ∀ (m : Nat) (s : Sq4__0), h51_0 Cl n [(bx sh7 x0)] m s.st = lq4__0 Cl n x0 m s := by
 intro m
 induction m with
 | zero => intro s; kernel_rfl
 | succ m ih =>
  intro s
  have e0 : (fun s => h51_0 Cl n [(bx sh7 x0)] m s.st) = lq4__0 Cl n x0 m := funext ih
  have e1 : (fun s => h51_1 Cl n [(bx sh7 x0)] m n s.st) = lq4__1 Cl n x0 (fun s => h51_0 Cl n [(bx sh7 x0)] m s.st) n := funext (hlq4__1 Cl n x0 m n)
  cases s with
  | s0 a0 =>
   have h : h51_0 Cl n [(bx sh7 x0)] (m + 1) (sq4__0_0 a0) = wq4__0_0 Cl n x0 (fun s => h51_1 Cl n [(bx sh7 x0)] m n s.st) a0 := by kernel_rfl
   rw [e1, e0] at h
   exact h
def ttq4_ (Cl : Oracle) (n : Nat) (H0 : Sq4__0 → OR) (x0 : RowT sh7) : OR :=
 (H0 (.s0 x0))
def tq4_ (Cl : Oracle) (n : Nat) (x0 : RowT sh7) : OR := ttq4_ Cl n (lq4__0 Cl n x0 n) x0
theorem ptq4_ (Cl : Oracle) (n : Nat) (x0 : RowT sh7) : evBodyA an51 Cl n k51 [pE] [(bx sh7 x0)] = tq4_ Cl n x0 := by
 have h : evBodyA an51 Cl n k51 [pE] [(bx sh7 x0)] = ttq4_ Cl n (fun s => h51_0 Cl n [(bx sh7 x0)] n s.st) x0 := by kernel_rfl
 have e0 : (fun s => h51_0 Cl n [(bx sh7 x0)] n s.st) = lq4__0 Cl n x0 n := funext (hlq4__0 Cl n x0 n)
 rw [e0] at h
 exact h
def tq1f_ (Cl : Oracle) (n : Nat) (x0 : Int) : OR :=
 (bif (decide (x0 ≥ (97 : Int))) then (some ((.one (bC (decide (x0 ≤ (122 : Int))))), [])) else rF)
theorem ptq1f_ (Cl : Oracle) (n : Nat) (x0 : Int) : evBodyA an42 Cl n k42 [(.one (.d (.int .u8 x0)))] [] = tq1f_ Cl n x0 := by kernel_rfl
def tq1g_ (Cl : Oracle) (n : Nat) (x0 : Int) : OR :=
 (bif (decide (x0 ≥ (48 : Int))) then (some ((.one (bC (decide (x0 ≤ (57 : Int))))), [])) else rF)
theorem ptq1g_ (Cl : Oracle) (n : Nat) (x0 : Int) : evBodyA an44 Cl n k44 [(.one (.d (.int .u8 x0)))] [] = tq1g_ Cl n x0 := by kernel_rfl
def tq1h_ (Cl : Oracle) (n : Nat) (x0 : Bool) : OR :=
 (bif x0 then (some ((.one (sC [116, 114, 117, 101])), [])) else (some ((.one (sC [102, 97, 108, 115, 101])), [])))
theorem ptq1h_ (Cl : Oracle) (n : Nat) (x0 : Bool) : evBodyA an63 Cl n k63 [(.one (bC x0))] [] = tq1h_ Cl n x0 := by kernel_rfl
def sqc__0_0 (a0 : RowT sh7) (a1 : RowT sh15) : Go.Abs.St := [((.s 0), ⟨pE, 0⟩), ((.r (.e 0)), ⟨(.one (iC 8)), 0⟩), ((.b (.e 0) 0), ⟨(.one (lC (.im a0.1.1) 3 a0.1.2)), 0⟩), ((.b (.e 0) 1), ⟨(.one (iC a0.2.1)), 0⟩), ((.b (.e 0) 2), ⟨(.one (iC a0.2.2.1)), 0⟩), ((.b (.e 0) 3), ⟨(.one (iC a0.2.2.2.1)), 0⟩), ((.b (.e 0) 4), ⟨(.one (sC a0.2.2.2.2.1)), 0⟩), ((.b (.e 0) 5), ⟨(.one (lC a0.2.2.2.2.2.1.1 3 a0.2.2.2.2.2.1.2)), 0⟩), ((.b (.e 0) 6), ⟨(.one (lC a0.2.2.2.2.2.2.1.1 6 a0.2.2.2.2.2.2.1.2)), 0⟩), ((.b (.e 0) 7), ⟨(.one (lC a0.2.2.2.2.2.2.2.1.1 10 a0.2.2.2.2.2.2.2.1.2)), 0⟩), ((.r (.e 1)), ⟨(.one (iC 10)), 0⟩), ((.b (.e 1) 0), ⟨(.one (iC a1.1)), 0⟩), ((.b (.e 1) 1), ⟨(.one (sC a1.2.1)), 0⟩), ((.b (.e 1) 2), ⟨(.one (sC a1.2.2.1)), 0⟩), ((.b (.e 1) 3), ⟨(.one (sC a1.2.2.2.1)), 0⟩), ((.b (.e 1) 4), ⟨(.one (sC a1.2.2.2.2.1)), 0⟩), ((.b (.e 1) 5), ⟨(.one (iC a1.2.2.2.2.2.1)), 0⟩), ((.b (.e 1) 6), ⟨(.one (lC (.im a1.2.2.2.2.2.2.1.1) 1 a1.2.2.2.2.2.2.1.2)), 0⟩), ((.b (.e 1) 7), ⟨(.one (lC (.im a1.2.2.2.2.2.2.2.1.1) 3 a1.2.2.2.2.2.2.2.1.2)), 0⟩), ((.b (.e 1) 8), ⟨(.one (lC (.im a1.2.2.2.2.2.2.2.2.1.1) 3 a1.2.2.2.2.2.2.2.2.1.2)), 0⟩), ((.b (.e 1) 9), ⟨(.one (iC a1.2.2.2.2.2.2.2.2.2.1)), 0⟩)]
def sqc__1_0 (a0 : RowT sh7) (a1 : RowT sh15) : Go.Abs.St := [((.s 0), ⟨pE, 0⟩), ((.r (.e 0)), ⟨(.one (iC 8)), 0⟩), ((.b (.e 0) 0), ⟨(.one (lC (.im a0.1.1) 3 a0.1.2)), 0⟩), ((.b (.e 0) 1), ⟨(.one (iC a0.2.1)), 0⟩), ((.b (.e 0) 2), ⟨(.one (iC a0.2.2.1)), 0⟩), ((.b (.e 0) 3), ⟨(.one (iC a0.2.2.2.1)), 0⟩), ((.b (.e 0) 4), ⟨(.one (sC a0.2.2.2.2.1)), 0⟩), ((.b (.e 0) 5), ⟨(.one (lC a0.2.2.2.2.2.1.1 3 a0.2.2.2.2.2.1.2)), 0⟩), ((.b (.e 0) 6), ⟨(.one (lC a0.2.2.2.2.2.2.1.1 6 a0.2.2.2.2.2.2.1.2)), 0⟩), ((.b (.e 0) 7), ⟨(.one (lC a0.2.2.2.2.2.2.2.1.1 10 a0.2.2.2.2.2.2.2.1.2)), 0⟩), ((.r (.e 1)), ⟨(.one (iC 10)), 0⟩), ((.b (.e 1) 0), ⟨(.one (iC a1.1)), 0⟩), ((.b (.e 1) 1), ⟨(.one (sC a1.2.1)), 0⟩), ((.b (.e 1) 2), ⟨(.one (sC a1.2.2.1)), 0⟩), ((.b (.e 1) 3), ⟨(.one (sC a1.2.2.2.1)), 0⟩), ((.b (.e 1) 4), ⟨(.one (sC a1.2.2.2.2.1)), 0⟩), ((.b (.e 1) 5), ⟨(.one (iC a1.2.2.2.2.2.1)), 0⟩), ((.b (.e 1) 6), ⟨(.one (lC (.im a1.2.2.2.2.2.2.1.1) 1 a1.2.2.2.2.2.2.1.2)), 0⟩), ((.b (.e 1) 7), ⟨(.one (lC (.im a1.2.2.2.2.2.2.2.1.1) 3 a1.2.2.2.2.2.2.2.1.2)), 0⟩), ((.b (.e 1) 8), ⟨(.one (lC (.im a1.2.2.2.2.2.2.2.2.1.1) 3 a1.2.2.2.2.2.2.2.2.1.2)), 0⟩), ((.b (.e 1) 9), ⟨(.one (iC a1.2.2.2.2.2.2.2.2.2.1)), 0⟩)]
inductive Sqc__0 where | s0 (a0 : RowT sh7) (a1 : RowT sh15)
def Sqc__0.st : Sqc__0 → Go.Abs.St | .s0 a0 a1 => sqc__0_0 a0 a1
inductive Sqc__1 where | s0 (a0 : RowT sh7) (a1 : RowT sh15)
def Sqc__1.st : Sqc__1 → Go.Abs.St | .s0 a0 a1 => sqc__1_0 a0 a1
def wqc__0_0 (Cl : Oracle) (n : Nat) (x0 : RowT sh7) (x1 : RowT sh15) (H1 : Sqc__1 → OR) (a0 : RowT sh7) (a1 : RowT sh15) : OR :=
 (tRes rs10 (Cl 33 [pE, (.one (sC [41]))] [(bx sh7 a0)]) fun v28 => (H1 (.s0 (v28.2.1) a1)))
def wqc__1_0 (Cl : Oracle) (n : Nat) (x0 : RowT sh7) (x1 : RowT sh15) (a0 : RowT sh7) (a1 : RowT sh15) : OR :=
 (tRes rs10 (Cl 33 [pE, (.one (sC [59]))] [(bx sh7 a0)]) fun v27 => (some ((.one (bC true)), [(bx sh7 (v27.2.1)), (bx sh15 a1)])))
def lqc__1 (Cl : Oracle) (n : Nat) (x0 : RowT sh7) (x1 : RowT sh15) (m : Nat) : Sqc__1 → OR := Nat.rec (fun _ => none) (fun _ ih s => match s with | .s0 a0 a1 => wqc__1_0 Cl n x0 x1 a0 a1) m
theorem hlqc__1 (Cl : Oracle) (n : Nat) (x0 : RowT sh7) (x1 : RowT sh15) : ∀ (m : Nat) (s : Sqc__1), h59_1 Cl n [(bx sh7 x0), (bx sh15 x1)] m s.st = lqc__1 Cl n x0 x1 m s := by
 intro m
 induction m with
 | zero => intro s; kernel_rfl
 | succ m ih =>
  intro s
  cases s with
  | s0 a0 a1 =>
   have h : h59_1 Cl n [(bx sh7 x0), (bx sh15 x1)] (m + 1) (sqc__1_0 a0 a1) = wqc__1_0 Cl n x0 x1 a0 a1 := by kernel_rfl
   exact h
def lqc__0 (Cl : Oracle) (n : Nat) (x0 : RowT sh7) (x1 : RowT sh15) (m : Nat) : Sqc__0 → OR := Nat.rec (fun _ => none) (fun _ ih s => match s with | .s0 a0 a1 => wqc__0_0 Cl n x0 x1 (lqc__1 Cl n x0 x1 n) a0 a1) m
theorem hlqc__0 (Cl : Oracle) (n : Nat) (x0 : RowT sh7) (x1 : RowT sh15) : ∀ (m : Nat) (s : Sqc__0), h59_0 Cl n [(bx sh7 x0), (bx sh15 x1)] m s.st = lqc__0 Cl n x0 x1 m s := by
 intro m
 induction m with
 | zero => intro s; kernel_rfl
 | succ m ih =>
  intro s
  have e1 : (fun s => h59_1 Cl n [(bx sh7 x0), (bx sh15 x1)] n s.st) = lqc__1 Cl n x0 x1 n := funext (hlqc__1 Cl n x0 x1 n)
  cases s with
  | s0 a0 a1 =>
   have h : h59_0 Cl n [(bx sh7 x0), (bx sh15 x1)] (m + 1) (sqc__0_0 a0 a1) = wqc__0_0 Cl n x0 x1 (fun s => h59_1 Cl n [(bx sh7 x0), (bx sh15 x1)] n s.st) a0 a1 := by kernel_rfl
   rw [e1] at h
   exact h
def ttqc_ (Cl : Oracle) (n : Nat) (H0 : Sqc__0 → OR) (H1 : Sqc__1 → OR) (x0 : RowT sh7) (x1 : RowT sh15) : OR :=
 (tRes rs6 (Cl 13 [pE, (.one (sC [108, 101, 116]))] [(bx sh7 x0)]) fun v0 => (bif (v0.1) then (tRes rs15 (Cl 32 [pE] [(bx sh7 (v0.2.1))]) fun v1 => (tRes rs10 (Cl 33 [pE, (.one (sC [61]))] [(bx sh7 (v1.2.1))]) fun v2 => (tRes rs17 (Cl 69 [pE] [(bx sh7 (v2.2.1))]) fun v3 => (H1 (.s0 (v3.2.1) (1, (v1.1), (x1.2.2.1), (x1.2.2.2.1), (x1.2.2.2.2.1), (v3.1), x1.2.2.2.2.2.2)))))) else (tRes rs6 (Cl 13 [pE, (.one (sC [112, 114, 105, 110, 116]))] [(bx sh7 (v0.2.1))]) fun v4 => (bif (v4.1) then (tRes rs17 (Cl 69 [pE] [(bx sh7 (v4.2.1))]) fun v5 => (H1 (.s0 (v5.2.1) (2, (x1.2.1), (x1.2.2.1), (x1.2.2.2.1), (x1.2.2.2.2.1), (v5.1), x1.2.2.2.2.2.2)))) else (tRes rs6 (Cl 13 [pE, (.one (sC [115, 97, 121]))] [(bx sh7 (v4.2.1))]) fun v6 => (bif (v6.1) then (tRes rs15 (Cl 32 [pE] [(bx sh7 (v6.2.1))]) fun v7 => (tRes rs10 (Cl 33 [pE, (.one (sC [116, 111]))] [(bx sh7 (v7.2.1))]) fun v8 => (tRes rs15 (Cl 32 [pE] [(bx sh7 (v8.2.1))]) fun v9 => (tRes rs15 (Cl 32 [pE] [(bx sh7 (v9.2.1))]) fun v10 => (tRes rs10 (Cl 33 [pE, (.one (sC [40]))] [(bx sh7 (v10.2.1))]) fun v11 => (tRes rs6 (Cl 31 [pE, (.one (sC [41]))] [(bx sh7 (v11.2.1))]) fun v12 => (bif (!v12.1) then (tRes rs17 (Cl 69 [pE] [(bx sh7 (v12.2.1))]) fun v13 => (H0 (.s0 (v13.2.1) (4, (v7.1), (v9.1), (v10.1), (x1.2.2.2.2.1), (v13.1), x1.2.2.2.2.2.2)))) else (H0 (.s0 (v12.2.1) (4, (v7.1), (v9.1), (v10.1), x1.2.2.2.2)))))))))) else (tRes rs6 (Cl 13 [pE, (.one (sC [115, 112, 97, 119, 110]))] [(bx sh7 (v6.2.1))]) fun v14 => (bif (v14.1) then (tRes rs15 (Cl 32 [pE] [(bx sh7 (v14.2.1))]) fun v15 => (tRes rs23 (Cl 70 [pE] [(bx sh7 (v15.2.1))]) fun v16 => (H1 (.s0 (v16.2.1) (7, (x1.2.1), (x1.2.2.1), (x1.2.2.2.1), (v15.1), (x1.2.2.2.2.2.1), v16.1, x1.2.2.2.2.2.2.2))))) else (tRes rs6 (Cl 13 [pE, (.one (sC [111, 112, 101, 110]))] [(bx sh7 (v14.2.1))]) fun v17 => (bif (v17.1) then (tRes rs15 (Cl 32 [pE] [(bx sh7 (v17.2.1))]) fun v18 => (tRes rs10 (Cl 33 [pE, (.one (sC [61]))] [(bx sh7 (v18.2.1))]) fun v19 => (tRes rs15 (Cl 32 [pE] [(bx sh7 (v19.2.1))]) fun v20 => (tRes rs10 (Cl 33 [pE, (.one (sC [97, 115]))] [(bx sh7 (v20.2.1))]) fun v21 => (tRes rs15 (Cl 32 [pE] [(bx sh7 (v21.2.1))]) fun v22 => (tRes rs10 (Cl 33 [pE, (.one (sC [119, 105, 116, 104]))] [(bx sh7 (v22.2.1))]) fun v23 => (tRes rs24 (Cl 71 [pE] [(bx sh7 (v23.2.1))]) fun v24 => (H1 (.s0 (v24.2.1) (8, (v18.1), (v22.1), (v20.1), (x1.2.2.2.2.1), (x1.2.2.2.2.2.1), x1.2.2.2.2.2.2.1, v24.1, x1.2.2.2.2.2.2.2.2)))))))))) else (tRes rs6 (Cl 13 [pE, (.one (sC [100, 114, 111, 112]))] [(bx sh7 (v17.2.1))]) fun v25 => (bif (v25.1) then (tRes rs15 (Cl 32 [pE] [(bx sh7 (v25.2.1))]) fun v26 => (H1 (.s0 (v26.2.1) (9, (v26.1), x1.2.2)))) else (some ((.one (bC false)), [(bx sh7 (v25.2.1)), (bx sh15 x1)]))))))))))))))
def tqc_ (Cl : Oracle) (n : Nat) (x0 : RowT sh7) (x1 : RowT sh15) : OR := ttqc_ Cl n (lqc__0 Cl n x0 x1 n) (lqc__1 Cl n x0 x1 n) x0 x1
theorem ptqc_ (Cl : Oracle) (n : Nat) (x0 : RowT sh7) (x1 : RowT sh15) : evBodyA an59 Cl n k59 [pE, (.one (.ptr (.e 1) 0 0))] [(bx sh7 x0), (bx sh15 x1)] = tqc_ Cl n x0 x1 := by
 have h : evBodyA an59 Cl n k59 [pE, (.one (.ptr (.e 1) 0 0))] [(bx sh7 x0), (bx sh15 x1)] = ttqc_ Cl n (fun s => h59_0 Cl n [(bx sh7 x0), (bx sh15 x1)] n s.st) (fun s => h59_1 Cl n [(bx sh7 x0), (bx sh15 x1)] n s.st) x0 x1 := by kernel_rfl
 have e0 : (fun s => h59_0 Cl n [(bx sh7 x0), (bx sh15 x1)] n s.st) = lqc__0 Cl n x0 x1 n := funext (hlqc__0 Cl n x0 x1 n)
 have e1 : (fun s => h59_1 Cl n [(bx sh7 x0), (bx sh15 x1)] n s.st) = lqc__1 Cl n x0 x1 n := funext (hlqc__1 Cl n x0 x1 n)
 rw [e0, e1] at h
 exact h
def sq3__0_0 (a0 : RowT sh7) (a1 : Int) (a2 : BB) (a3 : BB) (a4 : BB) (a5 : BB) (a6 : Int) (a7 : Bool) (a8 : RR) (a9 : Bool) (a10 : RR) (a11 : RR) (a12 : Int) : Go.Abs.St := [((.s 0), ⟨pE, 0⟩), ((.s 1), ⟨(.one (.ptr (.e 1) 0 0)), 0⟩), ((.r (.e 0)), ⟨(.one (iC 8)), 0⟩), ((.b (.e 0) 0), ⟨(.one (lC (.im a0.1.1) 3 a0.1.2)), 0⟩), ((.b (.e 0) 1), ⟨(.one (iC a0.2.1)), 0⟩), ((.b (.e 0) 2), ⟨(.one (iC a0.2.2.1)), 0⟩), ((.b (.e 0) 3), ⟨(.one (iC a0.2.2.2.1)), 0⟩), ((.b (.e 0) 4), ⟨(.one (sC a0.2.2.2.2.1)), 0⟩), ((.b (.e 0) 5), ⟨(.one (lC a0.2.2.2.2.2.1.1 3 a0.2.2.2.2.2.1.2)), 0⟩), ((.b (.e 0) 6), ⟨(.one (lC a0.2.2.2.2.2.2.1.1 6 a0.2.2.2.2.2.2.1.2)), 0⟩), ((.b (.e 0) 7), ⟨(.one (lC a0.2.2.2.2.2.2.2.1.1 10 a0.2.2.2.2.2.2.2.1.2)), 0⟩), ((.r (.e 1)), ⟨(.one (iC 10)), 0⟩), ((.b (.e 1) 0), ⟨(.one (iC a1)), 0⟩), ((.b (.e 1) 1), ⟨(.one (sC a2)), 0⟩), ((.b (.e 1) 2), ⟨(.one (sC a3)), 0⟩), ((.b (.e 1) 3), ⟨(.one (sC a4)), 0⟩), ((.b (.e 1) 4), ⟨(.one (sC a5)), 0⟩), ((.b (.e 1) 5), ⟨(.one (iC a6)), 0⟩), ((.b (.e 1) 6), ⟨(.one (lC (.im a7) 1 a8)), 0⟩), ((.b (.e 1) 7), ⟨(.one (lC (.im a9) 3 a10)), 0⟩), ((.b (.e 1) 8), ⟨(.one (lC .own 3 a11)), 0⟩), ((.b (.e 1) 9), ⟨(.one (iC a12)), 0⟩)]
def sq3__1_0 (a0 : RowT sh7) (a1 : Int) (a2 : BB) (a3 : BB) (a4 : BB) (a5 : BB) (a6 : Int) (a7 : Bool) (a8 : RR) (a9 : Bool) (a10 : RR) (a11 : RR) (a12 : Int) : Go.Abs.St := [((.s 0), ⟨pE, 0⟩), ((.s 1), ⟨(.one (.ptr (.e 1) 0 0)), 0⟩), ((.r (.e 0)), ⟨(.one (iC 8)), 0⟩), ((.b (.e 0) 0), ⟨(.one (lC (.im a0.1.1) 3 a0.1.2)), 0⟩), ((.b (.e 0) 1), ⟨(.one (iC a0.2.1)), 0⟩), ((.b (.e 0) 2), ⟨(.one (iC a0.2.2.1)), 0⟩), ((.b (.e 0) 3), ⟨(.one (iC a0.2.2.2.1)), 0⟩), ((.b (.e 0) 4), ⟨(.one (sC a0.2.2.2.2.1)), 0⟩), ((.b (.e 0) 5), ⟨(.one (lC a0.2.2.2.2.2.1.1 3 a0.2.2.2.2.2.1.2)), 0⟩), ((.b (.e 0) 6), ⟨(.one (lC a0.2.2.2.2.2.2.1.1 6 a0.2.2.2.2.2.2.1.2)), 0⟩), ((.b (.e 0) 7), ⟨(.one (lC a0.2.2.2.2.2.2.2.1.1 10 a0.2.2.2.2.2.2.2.1.2)), 0⟩), ((.r (.e 1)), ⟨(.one (iC 10)), 0⟩), ((.b (.e 1) 0), ⟨(.one (iC a1)), 0⟩), ((.b (.e 1) 1), ⟨(.one (sC a2)), 0⟩), ((.b (.e 1) 2), ⟨(.one (sC a3)), 0⟩), ((.b (.e 1) 3), ⟨(.one (sC a4)), 0⟩), ((.b (.e 1) 4), ⟨(.one (sC a5)), 0⟩), ((.b (.e 1) 5), ⟨(.one (iC a6)), 0⟩), ((.b (.e 1) 6), ⟨(.one (lC (.im a7) 1 a8)), 0⟩), ((.b (.e 1) 7), ⟨(.one (lC (.im a9) 3 a10)), 0⟩), ((.b (.e 1) 8), ⟨(.one (lC .own 3 a11)), 0⟩), ((.b (.e 1) 9), ⟨(.one (iC a12)), 0⟩)]
def sq3__2_0 (a0 : RowT sh7) (a1 : Int) (a2 : BB) (a3 : BB) (a4 : BB) (a5 : BB) (a6 : Int) (a7 : Bool) (a8 : RR) (a9 : Bool) (a10 : RR) (a11 : RR) (a12 : Int) : Go.Abs.St := [((.s 0), ⟨pE, 0⟩), ((.s 1), ⟨(.one (.ptr (.e 1) 0 0)), 0⟩), ((.r (.e 0)), ⟨(.one (iC 8)), 0⟩), ((.b (.e 0) 0), ⟨(.one (lC (.im a0.1.1) 3 a0.1.2)), 0⟩), ((.b (.e 0) 1), ⟨(.one (iC a0.2.1)), 0⟩), ((.b (.e 0) 2), ⟨(.one (iC a0.2.2.1)), 0⟩), ((.b (.e 0) 3), ⟨(.one (iC a0.2.2.2.1)), 0⟩), ((.b (.e 0) 4), ⟨(.one (sC a0.2.2.2.2.1)), 0⟩), ((.b (.e 0) 5), ⟨(.one (lC a0.2.2.2.2.2.1.1 3 a0.2.2.2.2.2.1.2)), 0⟩), ((.b (.e 0) 6), ⟨(.one (lC a0.2.2.2.2.2.2.1.1 6 a0.2.2.2.2.2.2.1.2)), 0⟩), ((.b (.e 0) 7), ⟨(.one (lC a0.2.2.2.2.2.2.2.1.1 10 a0.2.2.2.2.2.2.2.1.2)), 0⟩), ((.r (.e 1)), ⟨(.one (iC 10)), 0⟩), ((.b (.e 1) 0), ⟨(.one (iC a1)), 0⟩), ((.b (.e 1) 1), ⟨(.one (sC a2)), 0⟩), ((.b (.e 1) 2), ⟨(.one (sC a3)), 0⟩), ((.b (.e 1) 3), ⟨(.one (sC a4)), 0⟩), ((.b (.e 1) 4), ⟨(.one (sC a5)), 0⟩), ((.b (.e 1) 5), ⟨(.one (iC a6)), 0⟩), ((.b (.e 1) 6), ⟨(.one (lC (.im a7) 1 a8)), 0⟩), ((.b (.e 1) 7), ⟨(.one (lC (.im a9) 3 a10)), 0⟩), ((.b (.e 1) 8), ⟨(.one (lC .own 3 a11)), 0⟩), ((.b (.e 1) 9), ⟨(.one (iC a12)), 0⟩)]
def sq3__3_0 (a0 : RowT sh7) (a1 : Int) (a2 : BB) (a3 : BB) (a4 : BB) (a5 : BB) (a6 : Int) (a7 : Bool) (a8 : RR) (a9 : Bool) (a10 : RR) (a11 : RR) (a12 : Int) : Go.Abs.St := [((.s 0), ⟨pE, 0⟩), ((.r (.e 0)), ⟨(.one (iC 8)), 0⟩), ((.b (.e 0) 0), ⟨(.one (lC (.im a0.1.1) 3 a0.1.2)), 0⟩), ((.b (.e 0) 1), ⟨(.one (iC a0.2.1)), 0⟩), ((.b (.e 0) 2), ⟨(.one (iC a0.2.2.1)), 0⟩), ((.b (.e 0) 3), ⟨(.one (iC a0.2.2.2.1)), 0⟩), ((.b (.e 0) 4), ⟨(.one (sC a0.2.2.2.2.1)), 0⟩), ((.b (.e 0) 5), ⟨(.one (lC a0.2.2.2.2.2.1.1 3 a0.2.2.2.2.2.1.2)), 0⟩), ((.b (.e 0) 6), ⟨(.one (lC a0.2.2.2.2.2.2.1.1 6 a0.2.2.2.2.2.2.1.2)), 0⟩), ((.b (.e 0) 7), ⟨(.one (lC a0.2.2.2.2.2.2.2.1.1 10 a0.2.2.2.2.2.2.2.1.2)), 0⟩), ((.r (.e 1)), ⟨(.one (iC 10)), 0⟩), ((.b (.e 1) 0), ⟨(.one (iC a1)), 0⟩), ((.b (.e 1) 1), ⟨(.one (sC a2)), 0⟩), ((.b (.e 1) 2), ⟨(.one (sC a3)), 0⟩), ((.b (.e 1) 3), ⟨(.one (sC a4)), 0⟩), ((.b (.e 1) 4), ⟨(.one (sC a5)), 0⟩), ((.b (.e 1) 5), ⟨(.one (iC a6)), 0⟩), ((.b (.e 1) 6), ⟨(.one (lC (.im a7) 1 a8)), 0⟩), ((.b (.e 1) 7), ⟨(.one (lC (.im a9) 3 a10)), 0⟩), ((.b (.e 1) 8), ⟨(.one (lC .own 3 a11)), 0⟩), ((.b (.e 1) 9), ⟨(.one (iC a12)), 0⟩)]
inductive Sq3__0 where | s0 (a0 : RowT sh7) (a1 : Int) (a2 : BB) (a3 : BB) (a4 : BB) (a5 : BB) (a6 : Int) (a7 : Bool) (a8 : RR) (a9 : Bool) (a10 : RR) (a11 : RR) (a12 : Int)
def Sq3__0.st : Sq3__0 → Go.Abs.St | .s0 a0 a1 a2 a3 a4 a5 a6 a7 a8 a9 a10 a11 a12 => sq3__0_0 a0 a1 a2 a3 a4 a5 a6 a7 a8 a9 a10 a11 a12
inductive Sq3__1 where | s0 (a0 : RowT sh7) (a1 : Int) (a2 : BB) (a3 : BB) (a4 : BB) (a5 : BB) (a6 : Int) (a7 : Bool) (a8 : RR) (a9 : Bool) (a10 : RR) (a11 : RR) (a12 : Int)
def Sq3__1.st : Sq3__1 → Go.Abs.St | .s0 a0 a1 a2 a3 a4 a5 a6 a7 a8 a9 a10 a11 a12 => sq3__1_0 a0 a1 a2 a3 a4 a5 a6 a7 a8 a9 a10 a11 a12
inductive Sq3__2 where | s0 (a0 : RowT sh7) (a1 : Int) (a2 : BB) (a3 : BB) (a4 : BB) (a5 : BB) (a6 : Int) (a7 : Bool) (a8 : RR) (a9 : Bool) (a10 : RR) (a11 : RR) (a12 : Int)
def Sq3__2.st : Sq3__2 → Go.Abs.St | .s0 a0 a1 a2 a3 a4 a5 a6 a7 a8 a9 a10 a11 a12 => sq3__2_0 a0 a1 a2 a3 a4 a5 a6 a7 a8 a9 a10 a11 a12
inductive Sq3__3 where | s0 (a0 : RowT sh7) (a1 : Int) (a2 : BB) (a3 : BB) (a4 : BB) (a5 : BB) (a6 : Int) (a7 : Bool) (a8 : RR) (a9 : Bool) (a10 : RR) (a11 : RR) (a12 : Int)
def Sq3__3.st : Sq3__3 → Go.Abs.St | .s0 a0 a1 a2 a3 a4 a5 a6 a7 a8 a9 a10 a11 a12 => sq3__3_0 a0 a1 a2 a3 a4 a5 a6 a7 a8 a9 a10 a11 a12
def wq3__0_0 (Cl : Oracle) (n : Nat) (x0 : RowT sh7) (x1 : RowT sh15) (a0 : RowT sh7) (a1 : Int) (a2 : BB) (a3 : BB) (a4 : BB) (a5 : BB) (a6 : Int) (a7 : Bool) (a8 : RR) (a9 : Bool) (a10 : RR) (a11 : RR) (a12 : Int) : OR :=
 (tRes rs10 (Cl 33 [pE, (.one (sC [101, 108, 115, 101]))] [(bx sh7 a0)]) fun v15 => (tRes rs17 (Cl 37 [pE] [(bx sh7 (v15.2.1))]) fun v16 => (gd (a11.length == a11.length && true && decide ((a11.length + 1) * 40 ≤ 140737488355328)) (some ((.tup []), [(bx sh7 (v16.2.1)), [(iC a1), (sC a2), (sC a3), (sC a4), (sC a5), (iC a6), (lC (.im a7) 1 a8), (lC (.im a9) 3 a10), (lC .own 3 (a11 ++ [[D.str [], D.str [], D.int .i64 (0 : Int)]].set 0 [D.str [], D.str [], D.int .i64 v16.1])), (iC a12)]])))))
def wq3__1_0 (Cl : Oracle) (n : Nat) (x0 : RowT sh7) (x1 : RowT sh15) (H2 : Sq3__2 → OR) (H3 : Sq3__3 → OR) (a0 : RowT sh7) (a1 : Int) (a2 : BB) (a3 : BB) (a4 : BB) (a5 : BB) (a6 : Int) (a7 : Bool) (a8 : RR) (a9 : Bool) (a10 : RR) (a11 : RR) (a12 : Int) : OR :=
 (tRes rs6 (Cl 18 [pE] [(bx sh7 a0)]) fun v17 => (bif (!v17.1) then (tRes rs6 (Cl 31 [pE, (.one (sC [125]))] [(bx sh7 (v17.2.1))]) fun v18 => (bif (!v18.1) then (H2 (.s0 (v18.2.1) a1 a2 a3 a4 a5 a6 a7 a8 a9 a10 a11 a12)) else (H3 (.s0 (v18.2.1) a1 a2 a3 a4 a5 a6 a7 a8 a9 a10 a11 a12)))) else (H3 (.s0 (v17.2.1) a1 a2 a3 a4 a5 a6 a7 a8 a9 a10 a11 a12))))
def wq3__2_0 (Cl : Oracle) (n : Nat) (x0 : RowT sh7) (x1 : RowT sh15) (H1 : Sq3__1 → OR) (a0 : RowT sh7) (a1 : Int) (a2 : BB) (a3 : BB) (a4 : BB) (a5 : BB) (a6 : Int) (a7 : Bool) (a8 : RR) (a9 : Bool) (a10 : RR) (a11 : RR) (a12 : Int) : OR :=
 (tRes rs25 (Cl 72 [pE] [(bx sh7 a0)]) fun v19 => (gd (a11.length == a11.length && true && decide ((a11.length + 1) * 40 ≤ 140737488355328)) (H1 (.s0 (v19.2.1) a1 a2 a3 a4 a5 a6 a7 a8 a9 a10 (a11 ++ [[D.str [], D.str [], D.int .i64 (0 : Int)]].set 0 [D.str v19.1.1, D.str v19.1.2.1, D.int .i64 v19.1.2.2.1]) a12))))
def wq3__3_0 (Cl : Oracle) (n : Nat) (x0 : RowT sh7) (x1 : RowT sh15) (a0 : RowT sh7) (a1 : Int) (a2 : BB) (a3 : BB) (a4 : BB) (a5 : BB) (a6 : Int) (a7 : Bool) (a8 : RR) (a9 : Bool) (a10 : RR) (a11 : RR) (a12 : Int) : OR :=
 (tRes rs10 (Cl 33 [pE, (.one (sC [125]))] [(bx sh7 a0)]) fun v20 => (some ((.tup []), [(bx sh7 (v20.2.1)), [(iC a1), (sC a2), (sC a3), (sC a4), (sC a5), (iC a6), (lC (.im a7) 1 a8), (lC (.im a9) 3 a10), (lC .own 3 a11), (iC a12)]])))
def lq3__0 (Cl : Oracle) (n : Nat) (x0 : RowT sh7) (x1 : RowT sh15) (m : Nat) : Sq3__0 → OR := Nat.rec (fun _ => none) (fun _ ih s => match s with | .s0 a0 a1 a2 a3 a4 a5 a6 a7 a8 a9 a10 a11 a12 => wq3__0_0 Cl n x0 x1 a0 a1 a2 a3 a4 a5 a6 a7 a8 a9 a10 a11 a12) m
theorem hlq3__0 (Cl : Oracle) (n : Nat) (x0 : RowT sh7) (x1 : RowT sh15) : ∀ (m : Nat) (s : Sq3__0), h60_0 Cl n [(bx sh7 x0), (bx sh15 x1)] m s.st = lq3__0 Cl n x0 x1 m s := by
 intro m
 induction m with
 | zero => intro s; kernel_rfl
 | succ m ih =>
  intro s
  cases s with
  | s0 a0 a1 a2 a3 a4 a5 a6 a7 a8 a9 a10 a11 a12 =>
   have h : h60_0 Cl n [(bx sh7 x0), (bx sh15 x1)] (m + 1) (sq3__0_0 a0 a1 a2 a3 a4 a5 a6 a7 a8 a9 a10 a11 a12) = wq3__0_0 Cl n x0 x1 a0 a1 a2 a3 a4 a5 a6 a7 a8 a9 a10 a11 a12 := by kernel_rfl
   exact h
def lq3__2 (Cl : Oracle) (n : Nat) (x0 : RowT sh7) (x1 : RowT sh15) (H1 : Sq3__1 → OR) (m : Nat) : Sq3__2 → OR := Nat.rec (fun _ => none) (fun _ ih s => match s with | .s0 a0 a1 a2 a3 a4 a5 a6 a7 a8 a9 a10 a11 a12 => wq3__2_0 Cl n x0 x1 H1 a0 a1 a2 a3 a4 a5 a6 a7 a8 a9 a10 a11 a12) m
theorem hlq3__2 (Cl : Oracle) (n : Nat) (x0 : RowT sh7) (x1 : RowT sh15) (m1 : Nat) : ∀ (m : Nat) (s : Sq3__2), h60_2 Cl n [(bx sh7 x0), (bx sh15 x1)] m1 m s.st = lq3__2 Cl n x0 x1 (fun s => h60_1 Cl n [(bx sh7 x0), (bx sh15 x1)] m1 s.st) m s := by
 intro m
 induction m with
 | zero => intro s; kernel_rfl
 | succ m ih =>
  intro s
  cases s with
  | s0 a0 a1 a2 a3 a4 a5 a6 a7 a8 a9 a10 a11 a12 =>
   have h : h60_2 Cl n [(bx sh7 x0), (bx sh15 x1)] m1 (m + 1) (sq3__2_0 a0 a1 a2 a3 a4 a5 a6 a7 a8 a9 a10 a11 a12) = wq3__2_0 Cl n x0 x1 (fun s => h60_1 Cl n [(bx sh7 x0), (bx sh15 x1)] m1 s.st) a0 a1 a2 a3 a4 a5 a6 a7 a8 a9 a10 a11 a12 := by kernel_rfl
   exact h
def lq3__3 (Cl : Oracle) (n : Nat) (x0 : RowT sh7) (x1 : RowT sh15) (m : Nat) : Sq3__3 → OR := Nat.rec (fun _ => none) (fun _ ih s => match s with | .s0 a0 a1 a2 a3 a4 a5 a6 a7 a8 a9 a10 a11 a12 => wq3__3_0 Cl n x0 x1 a0 a1 a2 a3 a4 a5 a6 a7 a8 a9 a10 a11 a12) m
theorem hlq3__3 (Cl : Oracle) (n : Nat) (x0 : RowT sh7) (x1 : RowT sh15) : ∀ (m : Nat) (s : Sq3__3), h60_3 Cl n [(bx sh7 x0), (bx sh15 x1)] m s.st = lq3__3 Cl n x0 x1 m s := by
 intro m
 induction m with
 | zero => intro s; kernel_rfl
 | succ m ih =>
  intro s
  cases s with
  | s0 a0 a1 a2 a3 a4 a5 a6 a7 a8 a9 a10 a11 a12 =>
   have h : h60_3 Cl n [(bx sh7 x0), (bx sh15 x1)] (m + 1) (sq3__3_0 a0 a1 a2 a3 a4 a5 a6 a7 a8 a9 a10 a11 a12) = wq3__3_0 Cl n x0 x1 a0 a1 a2 a3 a4 a5 a6 a7 a8 a9 a10 a11 a12 := by kernel_rfl
   exact h
def lq3__1 (Cl : Oracle) (n : Nat) (x0 : RowT sh7) (x1 : RowT sh15) (m : Nat) : Sq3__1 → OR := Nat.rec (fun _ => none) (fun _ ih s => match s with | .s0 a0 a1 a2 a3 a4 a5 a6 a7 a8 a9 a10 a11 a12 => wq3__1_0 Cl n x0 x1 (lq3__2 Cl n x0 x1 ih n) (lq3__3 Cl n x0 x1 n) a0 a1 a2 a3 a4 a5 a6 a7 a8 a9 a10 a11 a12) m
theorem hlq3__1 (Cl : Oracle) (n : Nat) (x0 : RowT sh7) (x1 : RowT sh15) : ∀ (m : Nat) (s : Sq3__1), h60_1 Cl n [(bx sh7 x0), (bx sh15 x1)] m s.st = lq3__1 Cl n x0 x1 m s := by
 intro m
 induction m with
 | zero => intro s; kernel_rfl
 | succ m ih =>
  intro s
  have e1 : (fun s => h60_1 Cl n [(bx sh7 x0), (bx sh15 x1)] m s.st) = lq3__1 Cl n x0 x1 m := funext ih
  have e2 : (fun s => h60_2 Cl n [(bx sh7 x0), (bx sh15 x1)] m n s.st) = lq3__2 Cl n x0 x1 (fun s => h60_1 Cl n [(bx sh7 x0), (bx sh15 x1)] m s.st) n := funext (hlq3__2 Cl n x0 x1 m n)
  have e3 : (fun s => h60_3 Cl n [(bx sh7 x0), (bx sh15 x1)] n s.st) = lq3__3 Cl n x0 x1 n := funext (hlq3__3 Cl n x0 x1 n)
  cases s with
  | s0 a0 a1 a2 a3 a4 a5 a6 a7 a8 a9 a10 a11 a12 =>
   have h : h60_1 Cl n [(bx sh7 x0), (bx sh15 x1)] (m + 1) (sq3__1_0 a0 a1 a2 a3 a4 a5 a6 a7 a8 a9 a10 a11 a12) = wq3__1_0 Cl n x0 x1 (fun s => h60_2 Cl n [(bx sh7 x0), (bx sh15 x1)] m n s.st) (fun s => h60_3 Cl n [(bx sh7 x0), (bx sh15 x1)] n s.st) a0 a1 a2 a3 a4 a5 a6 a7 a8 a9 a10 a11 a12 := by kernel_rfl
   rw [e2, e3, e1] at h
   exact h
def ttq3_ (Cl : Oracle) (n : Nat) (H0 : Sq3__0 → OR) (H1 : Sq3__1 → OR) (x0 : RowT sh7) (x1 : RowT sh15) : OR :=
 (tRes rs6 (Cl 13 [pE, (.one (sC [115, 116, 111, 112]))] [(bx sh7 x0)]) fun v0 => (bif (v0.1) then (some ((.tup []), [(bx sh7 (v0.2.1)), (bx sh15 (0, x1.2))])) else (tRes rs6 (Cl 13 [pE, (.one (sC [102, 97, 105, 108]))] [(bx sh7 (v0.2.1))]) fun v1 => (bif (v1.1) then (some ((.tup []), [(bx sh7 (v1.2.1)), (bx sh15 (10, x1.2))])) else (tRes rs6 (Cl 13 [pE, (.one (sC [99, 97, 108, 108]))] [(bx sh7 (v1.2.1))]) fun v2 => (bif (v2.1) then (tRes rs15 (Cl 32 [pE] [(bx sh7 (v2.2.1))]) fun v3 => (tRes rs23 (Cl 70 [pE] [(bx sh7 (v3.2.1))]) fun v4 => (some ((.tup []), [(bx sh7 (v4.2.1)), (bx sh15 (6, (x1.2.1), (x1.2.2.1), (x1.2.2.2.1), (v3.1), (x1.2.2.2.2.2.1), v4.1, x1.2.2.2.2.2.2.2))])))) else (tRes rs6 (Cl 13 [pE, (.one (sC [105, 102]))] [(bx sh7 (v2.2.1))]) fun v5 => (bif (v5.1) then (tRes rs17 (Cl 69 [pE] [(bx sh7 (v5.2.1))]) fun v6 => (tRes rs17 (Cl 37 [pE] [(bx sh7 (v6.2.1))]) fun v7 => (gd (x1.2.2.2.2.2.2.2.2.1.1 && true && true) (H0 (.s0 (v7.2.1) 3 (x1.2.1) (x1.2.2.1) (x1.2.2.2.1) (x1.2.2.2.2.1) (v6.1) (x1.2.2.2.2.2.2.1.1) (x1.2.2.2.2.2.2.1.2) (x1.2.2.2.2.2.2.2.1.1) (x1.2.2.2.2.2.2.2.1.2) [[(.str []), (.str []), (.int .i64 (v7.1))]] (x1.2.2.2.2.2.2.2.2.2.1)))))) else (tRes rs6 (Cl 13 [pE, (.one (sC [104, 101, 97, 114]))] [(bx sh7 (v5.2.1))]) fun v8 => (bif (v8.1) then (tRes rs15 (Cl 32 [pE] [(bx sh7 (v8.2.1))]) fun v9 => (tRes rs10 (Cl 33 [pE, (.one (sC [102, 114, 111, 109]))] [(bx sh7 (v9.2.1))]) fun v10 => (tRes rs15 (Cl 32 [pE] [(bx sh7 (v10.2.1))]) fun v11 => (tRes rs10 (Cl 33 [pE, (.one (sC [123]))] [(bx sh7 (v11.2.1))]) fun v12 => (tRes rs25 (Cl 72 [pE] [(bx sh7 (v12.2.1))]) fun v13 => (gd (x1.2.2.2.2.2.2.2.2.1.1 && true && true) (H1 (.s0 (v13.2.1) 5 (v9.1) (v11.1) (x1.2.2.2.1) (x1.2.2.2.2.1) (x1.2.2.2.2.2.1) (x1.2.2.2.2.2.2.1.1) (x1.2.2.2.2.2.2.1.2) (x1.2.2.2.2.2.2.2.1.1) (x1.2.2.2.2.2.2.2.1.2) [[(.str (v13.1.1)), (.str (v13.1.2.1)), (.int .i64 (v13.1.2.2.1))]] (x1.2.2.2.2.2.2.2.2.2.1))))))))) else (tRes rs10 (Cl 17 [pE] [(bx sh7 (v8.2.1))]) fun v14 => (some ((.tup []), [(bx sh7 (v14.2.1)), (bx sh15 x1)])))))))))))))
def tq3_ (Cl : Oracle) (n : Nat) (x0 : RowT sh7) (x1 : RowT sh15) : OR := ttq3_ Cl n (lq3__0 Cl n x0 x1 n) (lq3__1 Cl n x0 x1 n) x0 x1
theorem ptq3_ (Cl : Oracle) (n : Nat) (x0 : RowT sh7) (x1 : RowT sh15) : evBodyA an60 Cl n k60 [pE, (.one (.ptr (.e 1) 0 0))] [(bx sh7 x0), (bx sh15 x1)] = tq3_ Cl n x0 x1 := by
 have h : evBodyA an60 Cl n k60 [pE, (.one (.ptr (.e 1) 0 0))] [(bx sh7 x0), (bx sh15 x1)] = ttq3_ Cl n (fun s => h60_0 Cl n [(bx sh7 x0), (bx sh15 x1)] n s.st) (fun s => h60_1 Cl n [(bx sh7 x0), (bx sh15 x1)] n s.st) x0 x1 := by kernel_rfl
 have e0 : (fun s => h60_0 Cl n [(bx sh7 x0), (bx sh15 x1)] n s.st) = lq3__0 Cl n x0 x1 n := funext (hlq3__0 Cl n x0 x1 n)
 have e1 : (fun s => h60_1 Cl n [(bx sh7 x0), (bx sh15 x1)] n s.st) = lq3__1 Cl n x0 x1 n := funext (hlq3__1 Cl n x0 x1 n)
 rw [e0, e1] at h
 exact h
def tqv_ (Cl : Oracle) (n : Nat) (x0 : RowT sh7) : OR :=
 (tRes rs17 (Cl 82 [pE, (.one (.fn 83 [(.ptr (.e 0) 0 0)] [])), (.one (lC (.im false) 1 [[(.str [111, 114])]])), (.one (lC (.im false) 1 [[(.int .i64 14)]]))] [(bx sh7 x0)]) fun v0 => (some ((.one (iC (v0.1))), [(bx sh7 (v0.2.1))])))
theorem ptqv_ (Cl : Oracle) (n : Nat) (x0 : RowT sh7) : evBodyA an69 Cl n k69 [pE] [(bx sh7 x0)] = tqv_ Cl n x0 := by kernel_rfl
end Go.Proofs.YteaaelhndaijoaaDoor
