/- The functions that the law reaches as the evaluator takes them, and what they come to: printed by program. -/
import Derived.Test.YteaaelhndaijoaaDoorTree0
import Derived.Test.YteaaelhndaijoaaDoorTree1
import Derived.Test.YteaaelhndaijoaaDoorPrim
set_option maxRecDepth 100000
set_option maxHeartbeats 40000000
set_option linter.unusedVariables false
namespace Go.Proofs.YteaaelhndaijoaaDoor
open Go Go.Abs
abbrev fqs_ : Nat := 12
abbrev fqp_ : Nat := 13
abbrev fqx_ : Nat := 18
abbrev fqt_ : Nat := 31
abbrev fqu_ : Nat := 33
abbrev fqy_ : Nat := 90
abbrev fqk_ : Nat := 91
def st3 (Cl : Oracle) (n : Nat) (vs : List V) (bx : List (List C)) : OR :=
  (match vs, bx with
  | [(.one (.d (.sl (.im x0) 6 x1))), (.one (.d (.int .i64 x2)))], [] => tq8_ Cl n x0 x1 x2
  | _, _ => none)
def st4 (Cl : Oracle) (n : Nat) (vs : List V) (bx : List (List C)) : OR :=
  (match vs, bx with
  | [], [] => tq1i_ Cl n
  | _, _ => none)
def st5 (Cl : Oracle) (n : Nat) (vs : List V) (bx : List (List C)) : OR :=
  (match vs, bx with
  | [(.one (.d (.sl (.im x0) 6 x1))), (.one (.d (.int .i64 x2)))], [] => tql_ Cl n x0 x1 x2
  | _, _ => none)
def st7 (Cl : Oracle) (n : Nat) (vs : List V) (bx : List (List C)) : OR :=
  (match vs, bx with
  | [(.one (.d (.sl (.im x0) 6 x1))), (.one (.d (.int .i64 x2)))], [] => tqz_ Cl n x0 x1 x2
  | _, _ => none)
def st6 (Cl : Oracle) (n : Nat) (vs : List V) (bx : List (List C)) : OR :=
  (match vs, bx with
  | [(.one (.d (.str x0)))], [] => tqi_ Cl n x0
  | _, _ => none)
def st8 (Cl : Oracle) (n : Nat) (vs : List V) (bx : List (List C)) : OR :=
  (match vs, bx with
  | [(.one (.d (.int .i64 x0))), (.one (.d (.int .i64 x1))), (.one (.ptr (.e 0) 0 0)), (.one (.ptr (.e 1) 0 0)), (.one (.ptr (.e 2) 0 0))], [c2, c3, c4] => qOpt (unbx [.tg 6] c2) fun x2 => qOpt (unbx [.tg 1] c3) fun x3 => qOpt (unbx sh4 c4) fun x4 => tq7_ Cl n x0 x1 x2 x3 x4
  | _, _ => none)
def st19 (Cl : Oracle) (n : Nat) (vs : List V) (bx : List (List C)) : OR :=
  (match vs, bx with
  | [(.one (.ptr (.e 0) 0 0)), (.one (.d (.sl (.im x0) 6 x1))), (.one (.d (.int .i64 x2)))], [c3] => qOpt (unbx sh5 c3) fun x3 => tqq_ Cl n x0 x1 x2 x3
  | _, _ => none)
def st20 (Cl : Oracle) (n : Nat) (vs : List V) (bx : List (List C)) : OR :=
  (match vs, bx with
  | [(.one (.ptr (.e 0) 0 0))], [c0] => qOpt (unbx sh5 c0) fun x0 => tq10_ Cl n x0
  | _, _ => none)
def st11 (Cl : Oracle) (n : Nat) (vs : List V) (bx : List (List C)) : OR :=
  (match vs, bx with
  | [(.one (.d (.str x0)))], [] => tq5_ Cl n x0
  | _, _ => none)
def st12 (Cl : Oracle) (n : Nat) (vs : List V) (bx : List (List C)) : OR :=
  (match vs, bx with
  | [(.one (.ptr (.e 0) 0 0))], [c0] => qOpt (unbx sh7 c0) fun x0 => tqs_ Cl n x0
  | _, _ => none)
def st13 (Cl : Oracle) (n : Nat) (vs : List V) (bx : List (List C)) : OR :=
  (match vs, bx with
  | [(.one (.ptr (.e 0) 0 0)), (.one (.d (.str x0)))], [c1] => qOpt (unbx sh7 c1) fun x1 => tqp_ Cl n x0 x1
  | _, _ => none)
def st16 (Cl : Oracle) (n : Nat) (vs : List V) (bx : List (List C)) : OR :=
  (match vs, bx with
  | [(.one (.ptr (.e 0) 0 0))], [c0] => qOpt (unbx sh7 c0) fun x0 => tq0_ Cl n x0
  | _, _ => none)
def st17 (Cl : Oracle) (n : Nat) (vs : List V) (bx : List (List C)) : OR :=
  (match vs, bx with
  | [(.one (.ptr (.e 0) 0 0))], [c0] => qOpt (unbx sh7 c0) fun x0 => tq1j_ Cl n x0
  | _, _ => none)
def st18 (Cl : Oracle) (n : Nat) (vs : List V) (bx : List (List C)) : OR :=
  (match vs, bx with
  | [(.one (.ptr (.e 0) 0 0))], [c0] => qOpt (unbx sh7 c0) fun x0 => tqx_ Cl n x0
  | _, _ => none)
def st9 (Cl : Oracle) (n : Nat) (vs : List V) (bx : List (List C)) : OR :=
  (match vs, bx with
  | [(.one (.d (.int .i64 x0)))], [] => tqn_ Cl n x0
  | _, _ => none)
def st10 (Cl : Oracle) (n : Nat) (vs : List V) (bx : List (List C)) : OR :=
  (match vs, bx with
  | [(.agg [(.d (.int .i64 x0)), (.d (.str x1)), (.d (.int .i64 x2)), (.d (.str x3)), (.d (.int .i64 x4)), (.d (.int .i64 x5))])], [] => tq11_ Cl n x0 x1 x2 x3 x4 x5
  | _, _ => none)
def st39 (Cl : Oracle) (n : Nat) (vs : List V) (bx : List (List C)) : OR :=
  (match vs, bx with
  | [(.agg [(.d (.int .i64 x0)), (.d (.str x1)), (.d (.int .i64 x2)), (.d (.str x3)), (.d (.int .i64 x4)), (.d (.int .i64 x5))])], [] => tq12_ Cl n x0 x1 x2 x3 x4 x5
  | _, _ => none)
def st38 (Cl : Oracle) (n : Nat) (vs : List V) (bx : List (List C)) : OR :=
  (match vs, bx with
  | [(.one (.ptr (.e 0) 0 0)), (.one (.d (.str x0)))], [c1] => qOpt (unbx sh5 c1) fun x1 => tq13_ Cl n x0 x1
  | _, _ => none)
def st40 (Cl : Oracle) (n : Nat) (vs : List V) (bx : List (List C)) : OR :=
  (match vs, bx with
  | [(.one (.d (.int .i64 x0)))], [] => tq14_ Cl n x0
  | _, _ => none)
def st41 (Cl : Oracle) (n : Nat) (vs : List V) (bx : List (List C)) : OR :=
  (match vs, bx with
  | [(.one (.d (.int .i64 x0)))], [] => tq15_ Cl n x0
  | _, _ => none)
def st22 (Cl : Oracle) (n : Nat) (vs : List V) (bx : List (List C)) : OR :=
  (match vs, bx with
  | [(.one (.d (.int .u8 x0)))], [] => tq16_ Cl n x0
  | _, _ => none)
def st23 (Cl : Oracle) (n : Nat) (vs : List V) (bx : List (List C)) : OR :=
  (match vs, bx with
  | [(.agg [(.d (.int .i64 x0)), (.d (.str x1)), (.d (.int .i64 x2))])], [] => tq17_ Cl n x0 x1 x2
  | _, _ => none)
def st26 (Cl : Oracle) (n : Nat) (vs : List V) (bx : List (List C)) : OR :=
  (match vs, bx with
  | [(.one (.d (.int .u8 x0)))], [] => tq18_ Cl n x0
  | _, _ => none)
def st24 (Cl : Oracle) (n : Nat) (vs : List V) (bx : List (List C)) : OR :=
  orF (match vs, bx with
  | [(.one (.d (.str x0))), (.one (.d (.int .i64 x1))), (.one (.fn 27 [] []))], [] => t_lex_runx1 Cl n x0 x1
  | _, _ => none) <|
  (match vs, bx with
  | [(.one (.d (.str x0))), (.one (.d (.int .i64 x1))), (.one (.fn 22 [] []))], [] => t_lex_runx2 Cl n x0 x1
  | _, _ => none)
def st28 (Cl : Oracle) (n : Nat) (vs : List V) (bx : List (List C)) : OR :=
  (match vs, bx with
  | [(.one (.d (.str x0)))], [] => tqb_ Cl n x0
  | _, _ => none)
def st29 (Cl : Oracle) (n : Nat) (vs : List V) (bx : List (List C)) : OR :=
  (match vs, bx with
  | [(.one (.d (.str x0))), (.one (.d (.int .i64 x1)))], [] => tq1_ Cl n x0 x1
  | _, _ => none)
def st30 (Cl : Oracle) (n : Nat) (vs : List V) (bx : List (List C)) : OR :=
  (match vs, bx with
  | [(.one (.d (.str x0))), (.one (.d (.int .i64 x1)))], [] => tqe_ Cl n x0 x1
  | _, _ => none)
def st31 (Cl : Oracle) (n : Nat) (vs : List V) (bx : List (List C)) : OR :=
  (match vs, bx with
  | [(.one (.ptr (.e 0) 0 0)), (.one (.d (.str x0)))], [c1] => qOpt (unbx sh7 c1) fun x1 => tqt_ Cl n x0 x1
  | _, _ => none)
def st32 (Cl : Oracle) (n : Nat) (vs : List V) (bx : List (List C)) : OR :=
  (match vs, bx with
  | [(.one (.ptr (.e 0) 0 0))], [c0] => qOpt (unbx sh7 c0) fun x0 => tq19_ Cl n x0
  | _, _ => none)
def st33 (Cl : Oracle) (n : Nat) (vs : List V) (bx : List (List C)) : OR :=
  (match vs, bx with
  | [(.one (.ptr (.e 0) 0 0)), (.one (.d (.str x0)))], [c1] => qOpt (unbx sh7 c1) fun x1 => tqu_ Cl n x0 x1
  | _, _ => none)
def st36 (Cl : Oracle) (n : Nat) (vs : List V) (bx : List (List C)) : OR :=
  (match vs, bx with
  | [(.one (.ptr (.e 0) 0 0))], [c0] => qOpt (unbx sh7 c0) fun x0 => tq1k_ Cl n x0
  | _, _ => none)
def st37 (Cl : Oracle) (n : Nat) (vs : List V) (bx : List (List C)) : OR :=
  (match vs, bx with
  | [(.one (.ptr (.e 0) 0 0))], [c0] => qOpt (unbx sh7 c0) fun x0 => tq1a_ Cl n x0
  | _, _ => none)
def st21 (Cl : Oracle) (n : Nat) (vs : List V) (bx : List (List C)) : OR :=
  (match vs, bx with
  | [(.one (.d (.str x0)))], [] => tq9_ Cl n x0
  | _, _ => none)
def st54 (Cl : Oracle) (n : Nat) (vs : List V) (bx : List (List C)) : OR :=
  (match vs, bx with
  | [(.one (.d (.bool x0)))], [] => tq1b_ Cl n x0
  | _, _ => none)
def st55 (Cl : Oracle) (n : Nat) (vs : List V) (bx : List (List C)) : OR :=
  (match vs, bx with
  | [(.one (.d (.str x0)))], [] => tq6_ Cl n x0
  | _, _ => none)
def st43 (Cl : Oracle) (n : Nat) (vs : List V) (bx : List (List C)) : OR :=
  (match vs, bx with
  | [(.one (.d (.str x0)))], [] => tqm_ Cl n x0
  | _, _ => none)
def st25 (Cl : Oracle) (n : Nat) (vs : List V) (bx : List (List C)) : OR :=
  (match vs, bx with
  | [(.one (.d (.int .u8 x0)))], [] => tqh_ Cl n x0
  | _, _ => none)
def st27 (Cl : Oracle) (n : Nat) (vs : List V) (bx : List (List C)) : OR :=
  (match vs, bx with
  | [(.one (.d (.int .u8 x0)))], [] => tqd_ Cl n x0
  | _, _ => none)
def st46 (Cl : Oracle) (n : Nat) (vs : List V) (bx : List (List C)) : OR :=
  (match vs, bx with
  | [(.one (.d (.int .i64 x0))), (.one (.ptr (.e 0) 0 0))], [c1] => qOpt (unbx [.str] c1) fun x1 => tqf_ Cl n x0 x1
  | _, _ => none)
def st47 (Cl : Oracle) (n : Nat) (vs : List V) (bx : List (List C)) : OR :=
  (match vs, bx with
  | [(.one (.d (.int .u8 x0)))], [] => tq1c_ Cl n x0
  | _, _ => none)
def st48 (Cl : Oracle) (n : Nat) (vs : List V) (bx : List (List C)) : OR :=
  (match vs, bx with
  | [(.one (.d (.int .u8 x0)))], [] => tq1d_ Cl n x0
  | _, _ => none)
def st49 (Cl : Oracle) (n : Nat) (vs : List V) (bx : List (List C)) : OR :=
  (match vs, bx with
  | [(.one (.ptr (.e 0) 0 0))], [c0] => qOpt (unbx sh7 c0) fun x0 => tq1e_ Cl n x0
  | _, _ => none)
def st51 (Cl : Oracle) (n : Nat) (vs : List V) (bx : List (List C)) : OR :=
  (match vs, bx with
  | [(.one (.ptr (.e 0) 0 0))], [c0] => qOpt (unbx sh7 c0) fun x0 => tq4_ Cl n x0
  | _, _ => none)
def st42 (Cl : Oracle) (n : Nat) (vs : List V) (bx : List (List C)) : OR :=
  (match vs, bx with
  | [(.one (.d (.int .u8 x0)))], [] => tq1f_ Cl n x0
  | _, _ => none)
def st44 (Cl : Oracle) (n : Nat) (vs : List V) (bx : List (List C)) : OR :=
  (match vs, bx with
  | [(.one (.d (.int .u8 x0)))], [] => tq1g_ Cl n x0
  | _, _ => none)
def st63 (Cl : Oracle) (n : Nat) (vs : List V) (bx : List (List C)) : OR :=
  (match vs, bx with
  | [(.one (.d (.bool x0)))], [] => tq1h_ Cl n x0
  | _, _ => none)
def st59 (Cl : Oracle) (n : Nat) (vs : List V) (bx : List (List C)) : OR :=
  (match vs, bx with
  | [(.one (.ptr (.e 0) 0 0)), (.one (.ptr (.e 1) 0 0))], [c0, c1] => qOpt (unbx sh7 c0) fun x0 => qOpt (unbx sh15 c1) fun x1 => tqc_ Cl n x0 x1
  | _, _ => none)
def st60 (Cl : Oracle) (n : Nat) (vs : List V) (bx : List (List C)) : OR :=
  (match vs, bx with
  | [(.one (.ptr (.e 0) 0 0)), (.one (.ptr (.e 1) 0 0))], [c0, c1] => qOpt (unbx sh7 c0) fun x0 => qOpt (unbx sh15 c1) fun x1 => tq3_ Cl n x0 x1
  | _, _ => none)
def st69 (Cl : Oracle) (n : Nat) (vs : List V) (bx : List (List C)) : OR :=
  (match vs, bx with
  | [(.one (.ptr (.e 0) 0 0))], [c0] => qOpt (unbx sh7 c0) fun x0 => tqv_ Cl n x0
  | _, _ => none)
def st82 (Cl : Oracle) (n : Nat) (vs : List V) (bx : List (List C)) : OR :=
  orF (match vs, bx with
  | [(.one (.ptr (.e 0) 0 0)), (.one (.fn 83 [(.ptr (.e 0) 0 0)] [])), (.one (.d (.sl (.im x0) 1 x1))), (.one (.d (.sl (.im x2) 1 x3)))], [c4] => qOpt (unbx sh7 c4) fun x4 => tq2_ Cl n x0 x1 x2 x3 x4
  | _, _ => none) <|
  orF (match vs, bx with
  | [(.one (.ptr (.e 0) 0 0)), (.one (.fn 92 [(.ptr (.e 0) 0 0)] [])), (.one (.d (.sl (.im x0) 1 x1))), (.one (.d (.sl (.im x2) 1 x3)))], [c4] => qOpt (unbx sh7 c4) fun x4 => t_parse_rowx1 Cl n x0 x1 x2 x3 x4
  | _, _ => none) <|
  orF (match vs, bx with
  | [(.one (.ptr (.e 0) 0 0)), (.one (.fn 96 [(.ptr (.e 0) 0 0)] [])), (.one (.d (.sl (.im x0) 1 x1))), (.one (.d (.sl (.im x2) 1 x3)))], [c4] => qOpt (unbx sh7 c4) fun x4 => t_parse_rowx2 Cl n x0 x1 x2 x3 x4
  | _, _ => none) <|
  (match vs, bx with
  | [(.one (.ptr (.e 0) 0 0)), (.one (.fn 97 [(.ptr (.e 0) 0 0)] [])), (.one (.d (.sl (.im x0) 1 x1))), (.one (.d (.sl (.im x2) 1 x3)))], [c4] => qOpt (unbx sh7 c4) fun x4 => t_parse_rowx3 Cl n x0 x1 x2 x3 x4
  | _, _ => none)
def st83 (Cl : Oracle) (n : Nat) (vs : List V) (bx : List (List C)) : OR :=
  (match vs, bx with
  | [(.one (.ptr (.e 0) 0 0))], [c0] => qOpt (unbx sh7 c0) fun x0 => tqw_ Cl n x0
  | _, _ => none)
def st90 (Cl : Oracle) (n : Nat) (vs : List V) (bx : List (List C)) : OR :=
  (match vs, bx with
  | [(.one (.d (.int .i64 x0)))], [] => tqy_ Cl n x0
  | _, _ => none)
def st91 (Cl : Oracle) (n : Nat) (vs : List V) (bx : List (List C)) : OR :=
  (match vs, bx with
  | [(.one (.ptr (.e 0) 0 0)), (.agg [(.d (.int .i64 x0)), (.d (.str x1)), (.d (.int .i64 x2)), (.d (.str x3)), (.d (.int .i64 x4)), (.d (.int .i64 x5))])], [c6] => qOpt (unbx sh7 c6) fun x6 => tqk_ Cl n x0 x1 x2 x3 x4 x5 x6
  | _, _ => none)
def st92 (Cl : Oracle) (n : Nat) (vs : List V) (bx : List (List C)) : OR :=
  (match vs, bx with
  | [(.one (.ptr (.e 0) 0 0))], [c0] => qOpt (unbx sh7 c0) fun x0 => tqg_ Cl n x0
  | _, _ => none)
def st95 (Cl : Oracle) (n : Nat) (vs : List V) (bx : List (List C)) : OR :=
  (match vs, bx with
  | [(.one (.ptr (.e 0) 0 0))], [c0] => qOpt (unbx sh7 c0) fun x0 => tqr_ Cl n x0
  | _, _ => none)
def st96 (Cl : Oracle) (n : Nat) (vs : List V) (bx : List (List C)) : OR :=
  (match vs, bx with
  | [(.one (.ptr (.e 0) 0 0))], [c0] => qOpt (unbx sh7 c0) fun x0 => tqo_ Cl n x0
  | _, _ => none)
def st97 (Cl : Oracle) (n : Nat) (vs : List V) (bx : List (List C)) : OR :=
  (match vs, bx with
  | [(.one (.ptr (.e 0) 0 0))], [c0] => qOpt (unbx sh7 c0) fun x0 => tqa_ Cl n x0
  | _, _ => none)
def st98 (Cl : Oracle) (n : Nat) (vs : List V) (bx : List (List C)) : OR :=
  (match vs, bx with
  | [(.one (.ptr (.e 0) 0 0)), (.one (.d (.int .i64 x0)))], [c1] => qOpt (unbx sh7 c1) fun x1 => tqj_ Cl n x0 x1
  | _, _ => none)
def step (Cl : Oracle) (n : Nat) (f : Nat) : List V → List (List C) → OR := match f with
  | 3 => st3 Cl n
  | 4 => st4 Cl n
  | 5 => st5 Cl n
  | 7 => st7 Cl n
  | 6 => st6 Cl n
  | 8 => st8 Cl n
  | 19 => st19 Cl n
  | 20 => st20 Cl n
  | 11 => st11 Cl n
  | 12 => st12 Cl n
  | 13 => st13 Cl n
  | 16 => st16 Cl n
  | 17 => st17 Cl n
  | 18 => st18 Cl n
  | 9 => st9 Cl n
  | 10 => st10 Cl n
  | 39 => st39 Cl n
  | 38 => st38 Cl n
  | 40 => st40 Cl n
  | 41 => st41 Cl n
  | 22 => st22 Cl n
  | 23 => st23 Cl n
  | 26 => st26 Cl n
  | 24 => st24 Cl n
  | 28 => st28 Cl n
  | 29 => st29 Cl n
  | 30 => st30 Cl n
  | 31 => st31 Cl n
  | 32 => st32 Cl n
  | 33 => st33 Cl n
  | 36 => st36 Cl n
  | 37 => st37 Cl n
  | 21 => st21 Cl n
  | 54 => st54 Cl n
  | 55 => st55 Cl n
  | 43 => st43 Cl n
  | 25 => st25 Cl n
  | 27 => st27 Cl n
  | 46 => st46 Cl n
  | 47 => st47 Cl n
  | 48 => st48 Cl n
  | 49 => st49 Cl n
  | 51 => st51 Cl n
  | 42 => st42 Cl n
  | 44 => st44 Cl n
  | 63 => st63 Cl n
  | 59 => st59 Cl n
  | 60 => st60 Cl n
  | 69 => st69 Cl n
  | 82 => st82 Cl n
  | 83 => st83 Cl n
  | 90 => st90 Cl n
  | 91 => st91 Cl n
  | 92 => st92 Cl n
  | 95 => st95 Cl n
  | 96 => st96 Cl n
  | 97 => st97 Cl n
  | 98 => st98 Cl n
  | f => primT f
def T (n : Nat) : Oracle := Nat.rec (fun _ _ _ => none) (fun m ih => step ih m) n
theorem st3_sound (Cl : Oracle) (n : Nat) (vs : List V) (bx : List (List C)) (r) (h : st3 Cl n vs bx = some r) : evBodyA an3 Cl n k3 vs bx = some r := by
  unfold st3 at h
  split at h
  · exact (ptq8_ ..).trans h
  · cases h
theorem st4_sound (Cl : Oracle) (n : Nat) (vs : List V) (bx : List (List C)) (r) (h : st4 Cl n vs bx = some r) : evBodyA an4 Cl n k4 vs bx = some r := by
  unfold st4 at h
  split at h
  · exact (ptq1i_ ..).trans h
  · cases h
theorem st5_sound (Cl : Oracle) (n : Nat) (vs : List V) (bx : List (List C)) (r) (h : st5 Cl n vs bx = some r) : evBodyA an5 Cl n k5 vs bx = some r := by
  unfold st5 at h
  split at h
  · exact (ptql_ ..).trans h
  · cases h
theorem st7_sound (Cl : Oracle) (n : Nat) (vs : List V) (bx : List (List C)) (r) (h : st7 Cl n vs bx = some r) : evBodyA an7 Cl n k7 vs bx = some r := by
  unfold st7 at h
  split at h
  · exact (ptqz_ ..).trans h
  · cases h
theorem st6_sound (Cl : Oracle) (n : Nat) (vs : List V) (bx : List (List C)) (r) (h : st6 Cl n vs bx = some r) : evBodyA an6 Cl n k6 vs bx = some r := by
  unfold st6 at h
  split at h
  · exact (ptqi_ ..).trans h
  · cases h
theorem st8_sound (Cl : Oracle) (n : Nat) (vs : List V) (bx : List (List C)) (r) (h : st8 Cl n vs bx = some r) : evBodyA an8 Cl n k8 vs bx = some r := by
  unfold st8 at h
  split at h
  · obtain ⟨x2, h2, h⟩ := qOpt_inv h
    rw [unbx_inv h2]
    obtain ⟨x3, h3, h⟩ := qOpt_inv h
    rw [unbx_inv h3]
    obtain ⟨x4, h4, h⟩ := qOpt_inv h
    rw [unbx_inv h4]
    exact (ptq7_ ..).trans h
  · cases h
theorem st19_sound (Cl : Oracle) (n : Nat) (vs : List V) (bx : List (List C)) (r) (h : st19 Cl n vs bx = some r) : evBodyA an19 Cl n k19 vs bx = some r := by
  unfold st19 at h
  split at h
  · obtain ⟨x3, h3, h⟩ := qOpt_inv h
    rw [unbx_inv h3]
    exact (ptqq_ ..).trans h
  · cases h
theorem st20_sound (Cl : Oracle) (n : Nat) (vs : List V) (bx : List (List C)) (r) (h : st20 Cl n vs bx = some r) : evBodyA an20 Cl n k20 vs bx = some r := by
  unfold st20 at h
  split at h
  · obtain ⟨x0, h0, h⟩ := qOpt_inv h
    rw [unbx_inv h0]
    exact (ptq10_ ..).trans h
  · cases h
theorem st11_sound (Cl : Oracle) (n : Nat) (vs : List V) (bx : List (List C)) (r) (h : st11 Cl n vs bx = some r) : evBodyA an11 Cl n k11 vs bx = some r := by
  unfold st11 at h
  split at h
  · exact (ptq5_ ..).trans h
  · cases h
theorem st12_sound (Cl : Oracle) (n : Nat) (vs : List V) (bx : List (List C)) (r) (h : st12 Cl n vs bx = some r) : evBodyA an12 Cl n k12 vs bx = some r := by
  unfold st12 at h
  split at h
  · obtain ⟨x0, h0, h⟩ := qOpt_inv h
    rw [unbx_inv h0]
    exact (ptqs_ ..).trans h
  · cases h
theorem st13_sound (Cl : Oracle) (n : Nat) (vs : List V) (bx : List (List C)) (r) (h : st13 Cl n vs bx = some r) : evBodyA an13 Cl n k13 vs bx = some r := by
  unfold st13 at h
  split at h
  · obtain ⟨x1, h1, h⟩ := qOpt_inv h
    rw [unbx_inv h1]
    exact (ptqp_ ..).trans h
  · cases h
theorem st16_sound (Cl : Oracle) (n : Nat) (vs : List V) (bx : List (List C)) (r) (h : st16 Cl n vs bx = some r) : evBodyA an16 Cl n k16 vs bx = some r := by
  unfold st16 at h
  split at h
  · obtain ⟨x0, h0, h⟩ := qOpt_inv h
    rw [unbx_inv h0]
    exact (ptq0_ ..).trans h
  · cases h
theorem st17_sound (Cl : Oracle) (n : Nat) (vs : List V) (bx : List (List C)) (r) (h : st17 Cl n vs bx = some r) : evBodyA an17 Cl n k17 vs bx = some r := by
  unfold st17 at h
  split at h
  · obtain ⟨x0, h0, h⟩ := qOpt_inv h
    rw [unbx_inv h0]
    exact (ptq1j_ ..).trans h
  · cases h
theorem st18_sound (Cl : Oracle) (n : Nat) (vs : List V) (bx : List (List C)) (r) (h : st18 Cl n vs bx = some r) : evBodyA an18 Cl n k18 vs bx = some r := by
  unfold st18 at h
  split at h
  · obtain ⟨x0, h0, h⟩ := qOpt_inv h
    rw [unbx_inv h0]
    exact (ptqx_ ..).trans h
  · cases h
theorem st9_sound (Cl : Oracle) (n : Nat) (vs : List V) (bx : List (List C)) (r) (h : st9 Cl n vs bx = some r) : evBodyA an9 Cl n k9 vs bx = some r := by
  unfold st9 at h
  split at h
  · exact (ptqn_ ..).trans h
  · cases h
theorem st10_sound (Cl : Oracle) (n : Nat) (vs : List V) (bx : List (List C)) (r) (h : st10 Cl n vs bx = some r) : evBodyA an10 Cl n k10 vs bx = some r := by
  unfold st10 at h
  split at h
  · exact (ptq11_ ..).trans h
  · cases h
theorem st39_sound (Cl : Oracle) (n : Nat) (vs : List V) (bx : List (List C)) (r) (h : st39 Cl n vs bx = some r) : evBodyA an39 Cl n k39 vs bx = some r := by
  unfold st39 at h
  split at h
  · exact (ptq12_ ..).trans h
  · cases h
theorem st38_sound (Cl : Oracle) (n : Nat) (vs : List V) (bx : List (List C)) (r) (h : st38 Cl n vs bx = some r) : evBodyA an38 Cl n k38 vs bx = some r := by
  unfold st38 at h
  split at h
  · obtain ⟨x1, h1, h⟩ := qOpt_inv h
    rw [unbx_inv h1]
    exact (ptq13_ ..).trans h
  · cases h
theorem st40_sound (Cl : Oracle) (n : Nat) (vs : List V) (bx : List (List C)) (r) (h : st40 Cl n vs bx = some r) : evBodyA an40 Cl n k40 vs bx = some r := by
  unfold st40 at h
  split at h
  · exact (ptq14_ ..).trans h
  · cases h
theorem st41_sound (Cl : Oracle) (n : Nat) (vs : List V) (bx : List (List C)) (r) (h : st41 Cl n vs bx = some r) : evBodyA an41 Cl n k41 vs bx = some r := by
  unfold st41 at h
  split at h
  · exact (ptq15_ ..).trans h
  · cases h
theorem st22_sound (Cl : Oracle) (n : Nat) (vs : List V) (bx : List (List C)) (r) (h : st22 Cl n vs bx = some r) : evBodyA an22 Cl n k22 vs bx = some r := by
  unfold st22 at h
  split at h
  · exact (ptq16_ ..).trans h
  · cases h
theorem st23_sound (Cl : Oracle) (n : Nat) (vs : List V) (bx : List (List C)) (r) (h : st23 Cl n vs bx = some r) : evBodyA an23 Cl n k23 vs bx = some r := by
  unfold st23 at h
  split at h
  · exact (ptq17_ ..).trans h
  · cases h
theorem st26_sound (Cl : Oracle) (n : Nat) (vs : List V) (bx : List (List C)) (r) (h : st26 Cl n vs bx = some r) : evBodyA an26 Cl n k26 vs bx = some r := by
  unfold st26 at h
  split at h
  · exact (ptq18_ ..).trans h
  · cases h
theorem st24_sound (Cl : Oracle) (n : Nat) (vs : List V) (bx : List (List C)) (r) (h : st24 Cl n vs bx = some r) : evBodyA an24 Cl n k24 vs bx = some r := by
  unfold st24 at h
  rcases orF_some h with h | h
  · split at h
    · exact (pt_lex_runx1 ..).trans h
    · cases h
  split at h
  · exact (pt_lex_runx2 ..).trans h
  · cases h
theorem st28_sound (Cl : Oracle) (n : Nat) (vs : List V) (bx : List (List C)) (r) (h : st28 Cl n vs bx = some r) : evBodyA an28 Cl n k28 vs bx = some r := by
  unfold st28 at h
  split at h
  · exact (ptqb_ ..).trans h
  · cases h
theorem st29_sound (Cl : Oracle) (n : Nat) (vs : List V) (bx : List (List C)) (r) (h : st29 Cl n vs bx = some r) : evBodyA an29 Cl n k29 vs bx = some r := by
  unfold st29 at h
  split at h
  · exact (ptq1_ ..).trans h
  · cases h
theorem st30_sound (Cl : Oracle) (n : Nat) (vs : List V) (bx : List (List C)) (r) (h : st30 Cl n vs bx = some r) : evBodyA an30 Cl n k30 vs bx = some r := by
  unfold st30 at h
  split at h
  · exact (ptqe_ ..).trans h
  · cases h
theorem st31_sound (Cl : Oracle) (n : Nat) (vs : List V) (bx : List (List C)) (r) (h : st31 Cl n vs bx = some r) : evBodyA an31 Cl n k31 vs bx = some r := by
  unfold st31 at h
  split at h
  · obtain ⟨x1, h1, h⟩ := qOpt_inv h
    rw [unbx_inv h1]
    exact (ptqt_ ..).trans h
  · cases h
theorem st32_sound (Cl : Oracle) (n : Nat) (vs : List V) (bx : List (List C)) (r) (h : st32 Cl n vs bx = some r) : evBodyA an32 Cl n k32 vs bx = some r := by
  unfold st32 at h
  split at h
  · obtain ⟨x0, h0, h⟩ := qOpt_inv h
    rw [unbx_inv h0]
    exact (ptq19_ ..).trans h
  · cases h
theorem st33_sound (Cl : Oracle) (n : Nat) (vs : List V) (bx : List (List C)) (r) (h : st33 Cl n vs bx = some r) : evBodyA an33 Cl n k33 vs bx = some r := by
  unfold st33 at h
  split at h
  · obtain ⟨x1, h1, h⟩ := qOpt_inv h
    rw [unbx_inv h1]
    exact (ptqu_ ..).trans h
  · cases h
theorem st36_sound (Cl : Oracle) (n : Nat) (vs : List V) (bx : List (List C)) (r) (h : st36 Cl n vs bx = some r) : evBodyA an36 Cl n k36 vs bx = some r := by
  unfold st36 at h
  split at h
  · obtain ⟨x0, h0, h⟩ := qOpt_inv h
    rw [unbx_inv h0]
    exact (ptq1k_ ..).trans h
  · cases h
theorem st37_sound (Cl : Oracle) (n : Nat) (vs : List V) (bx : List (List C)) (r) (h : st37 Cl n vs bx = some r) : evBodyA an37 Cl n k37 vs bx = some r := by
  unfold st37 at h
  split at h
  · obtain ⟨x0, h0, h⟩ := qOpt_inv h
    rw [unbx_inv h0]
    exact (ptq1a_ ..).trans h
  · cases h
theorem st21_sound (Cl : Oracle) (n : Nat) (vs : List V) (bx : List (List C)) (r) (h : st21 Cl n vs bx = some r) : evBodyA an21 Cl n k21 vs bx = some r := by
  unfold st21 at h
  split at h
  · exact (ptq9_ ..).trans h
  · cases h
theorem st54_sound (Cl : Oracle) (n : Nat) (vs : List V) (bx : List (List C)) (r) (h : st54 Cl n vs bx = some r) : evBodyA an54 Cl n k54 vs bx = some r := by
  unfold st54 at h
  split at h
  · exact (ptq1b_ ..).trans h
  · cases h
theorem st55_sound (Cl : Oracle) (n : Nat) (vs : List V) (bx : List (List C)) (r) (h : st55 Cl n vs bx = some r) : evBodyA an55 Cl n k55 vs bx = some r := by
  unfold st55 at h
  split at h
  · exact (ptq6_ ..).trans h
  · cases h
theorem st43_sound (Cl : Oracle) (n : Nat) (vs : List V) (bx : List (List C)) (r) (h : st43 Cl n vs bx = some r) : evBodyA an43 Cl n k43 vs bx = some r := by
  unfold st43 at h
  split at h
  · exact (ptqm_ ..).trans h
  · cases h
theorem st25_sound (Cl : Oracle) (n : Nat) (vs : List V) (bx : List (List C)) (r) (h : st25 Cl n vs bx = some r) : evBodyA an25 Cl n k25 vs bx = some r := by
  unfold st25 at h
  split at h
  · exact (ptqh_ ..).trans h
  · cases h
theorem st27_sound (Cl : Oracle) (n : Nat) (vs : List V) (bx : List (List C)) (r) (h : st27 Cl n vs bx = some r) : evBodyA an27 Cl n k27 vs bx = some r := by
  unfold st27 at h
  split at h
  · exact (ptqd_ ..).trans h
  · cases h
theorem st46_sound (Cl : Oracle) (n : Nat) (vs : List V) (bx : List (List C)) (r) (h : st46 Cl n vs bx = some r) : evBodyA an46 Cl n k46 vs bx = some r := by
  unfold st46 at h
  split at h
  · obtain ⟨x1, h1, h⟩ := qOpt_inv h
    rw [unbx_inv h1]
    exact (ptqf_ ..).trans h
  · cases h
theorem st47_sound (Cl : Oracle) (n : Nat) (vs : List V) (bx : List (List C)) (r) (h : st47 Cl n vs bx = some r) : evBodyA an47 Cl n k47 vs bx = some r := by
  unfold st47 at h
  split at h
  · exact (ptq1c_ ..).trans h
  · cases h
theorem st48_sound (Cl : Oracle) (n : Nat) (vs : List V) (bx : List (List C)) (r) (h : st48 Cl n vs bx = some r) : evBodyA an48 Cl n k48 vs bx = some r := by
  unfold st48 at h
  split at h
  · exact (ptq1d_ ..).trans h
  · cases h
theorem st49_sound (Cl : Oracle) (n : Nat) (vs : List V) (bx : List (List C)) (r) (h : st49 Cl n vs bx = some r) : evBodyA an49 Cl n k49 vs bx = some r := by
  unfold st49 at h
  split at h
  · obtain ⟨x0, h0, h⟩ := qOpt_inv h
    rw [unbx_inv h0]
    exact (ptq1e_ ..).trans h
  · cases h
theorem st51_sound (Cl : Oracle) (n : Nat) (vs : List V) (bx : List (List C)) (r) (h : st51 Cl n vs bx = some r) : evBodyA an51 Cl n k51 vs bx = some r := by
  unfold st51 at h
  split at h
  · obtain ⟨x0, h0, h⟩ := qOpt_inv h
    rw [unbx_inv h0]
    exact (ptq4_ ..).trans h
  · cases h
theorem st42_sound (Cl : Oracle) (n : Nat) (vs : List V) (bx : List (List C)) (r) (h : st42 Cl n vs bx = some r) : evBodyA an42 Cl n k42 vs bx = some r := by
  unfold st42 at h
  split at h
  · exact (ptq1f_ ..).trans h
  · cases h
theorem st44_sound (Cl : Oracle) (n : Nat) (vs : List V) (bx : List (List C)) (r) (h : st44 Cl n vs bx = some r) : evBodyA an44 Cl n k44 vs bx = some r := by
  unfold st44 at h
  split at h
  · exact (ptq1g_ ..).trans h
  · cases h
theorem st63_sound (Cl : Oracle) (n : Nat) (vs : List V) (bx : List (List C)) (r) (h : st63 Cl n vs bx = some r) : evBodyA an63 Cl n k63 vs bx = some r := by
  unfold st63 at h
  split at h
  · exact (ptq1h_ ..).trans h
  · cases h
theorem st59_sound (Cl : Oracle) (n : Nat) (vs : List V) (bx : List (List C)) (r) (h : st59 Cl n vs bx = some r) : evBodyA an59 Cl n k59 vs bx = some r := by
  unfold st59 at h
  split at h
  · obtain ⟨x0, h0, h⟩ := qOpt_inv h
    rw [unbx_inv h0]
    obtain ⟨x1, h1, h⟩ := qOpt_inv h
    rw [unbx_inv h1]
    exact (ptqc_ ..).trans h
  · cases h
theorem st60_sound (Cl : Oracle) (n : Nat) (vs : List V) (bx : List (List C)) (r) (h : st60 Cl n vs bx = some r) : evBodyA an60 Cl n k60 vs bx = some r := by
  unfold st60 at h
  split at h
  · obtain ⟨x0, h0, h⟩ := qOpt_inv h
    rw [unbx_inv h0]
    obtain ⟨x1, h1, h⟩ := qOpt_inv h
    rw [unbx_inv h1]
    exact (ptq3_ ..).trans h
  · cases h
theorem st69_sound (Cl : Oracle) (n : Nat) (vs : List V) (bx : List (List C)) (r) (h : st69 Cl n vs bx = some r) : evBodyA an69 Cl n k69 vs bx = some r := by
  unfold st69 at h
  split at h
  · obtain ⟨x0, h0, h⟩ := qOpt_inv h
    rw [unbx_inv h0]
    exact (ptqv_ ..).trans h
  · cases h
theorem st82_sound (Cl : Oracle) (n : Nat) (vs : List V) (bx : List (List C)) (r) (h : st82 Cl n vs bx = some r) : evBodyA an82 Cl n k82 vs bx = some r := by
  unfold st82 at h
  rcases orF_some h with h | h
  · split at h
    · obtain ⟨x4, h4, h⟩ := qOpt_inv h
      rw [unbx_inv h4]
      exact (ptq2_ ..).trans h
    · cases h
  rcases orF_some h with h | h
  · split at h
    · obtain ⟨x4, h4, h⟩ := qOpt_inv h
      rw [unbx_inv h4]
      exact (pt_parse_rowx1 ..).trans h
    · cases h
  rcases orF_some h with h | h
  · split at h
    · obtain ⟨x4, h4, h⟩ := qOpt_inv h
      rw [unbx_inv h4]
      exact (pt_parse_rowx2 ..).trans h
    · cases h
  split at h
  · obtain ⟨x4, h4, h⟩ := qOpt_inv h
    rw [unbx_inv h4]
    exact (pt_parse_rowx3 ..).trans h
  · cases h
theorem st83_sound (Cl : Oracle) (n : Nat) (vs : List V) (bx : List (List C)) (r) (h : st83 Cl n vs bx = some r) : evBodyA an83 Cl n k83 vs bx = some r := by
  unfold st83 at h
  split at h
  · obtain ⟨x0, h0, h⟩ := qOpt_inv h
    rw [unbx_inv h0]
    exact (ptqw_ ..).trans h
  · cases h
theorem st90_sound (Cl : Oracle) (n : Nat) (vs : List V) (bx : List (List C)) (r) (h : st90 Cl n vs bx = some r) : evBodyA an90 Cl n k90 vs bx = some r := by
  unfold st90 at h
  split at h
  · exact (ptqy_ ..).trans h
  · cases h
theorem st91_sound (Cl : Oracle) (n : Nat) (vs : List V) (bx : List (List C)) (r) (h : st91 Cl n vs bx = some r) : evBodyA an91 Cl n k91 vs bx = some r := by
  unfold st91 at h
  split at h
  · obtain ⟨x6, h6, h⟩ := qOpt_inv h
    rw [unbx_inv h6]
    exact (ptqk_ ..).trans h
  · cases h
theorem st92_sound (Cl : Oracle) (n : Nat) (vs : List V) (bx : List (List C)) (r) (h : st92 Cl n vs bx = some r) : evBodyA an92 Cl n k92 vs bx = some r := by
  unfold st92 at h
  split at h
  · obtain ⟨x0, h0, h⟩ := qOpt_inv h
    rw [unbx_inv h0]
    exact (ptqg_ ..).trans h
  · cases h
theorem st95_sound (Cl : Oracle) (n : Nat) (vs : List V) (bx : List (List C)) (r) (h : st95 Cl n vs bx = some r) : evBodyA an95 Cl n k95 vs bx = some r := by
  unfold st95 at h
  split at h
  · obtain ⟨x0, h0, h⟩ := qOpt_inv h
    rw [unbx_inv h0]
    exact (ptqr_ ..).trans h
  · cases h
theorem st96_sound (Cl : Oracle) (n : Nat) (vs : List V) (bx : List (List C)) (r) (h : st96 Cl n vs bx = some r) : evBodyA an96 Cl n k96 vs bx = some r := by
  unfold st96 at h
  split at h
  · obtain ⟨x0, h0, h⟩ := qOpt_inv h
    rw [unbx_inv h0]
    exact (ptqo_ ..).trans h
  · cases h
theorem st97_sound (Cl : Oracle) (n : Nat) (vs : List V) (bx : List (List C)) (r) (h : st97 Cl n vs bx = some r) : evBodyA an97 Cl n k97 vs bx = some r := by
  unfold st97 at h
  split at h
  · obtain ⟨x0, h0, h⟩ := qOpt_inv h
    rw [unbx_inv h0]
    exact (ptqa_ ..).trans h
  · cases h
theorem st98_sound (Cl : Oracle) (n : Nat) (vs : List V) (bx : List (List C)) (r) (h : st98 Cl n vs bx = some r) : evBodyA an98 Cl n k98 vs bx = some r := by
  unfold st98 at h
  split at h
  · obtain ⟨x1, h1, h⟩ := qOpt_inv h
    rw [unbx_inv h1]
    exact (ptqj_ ..).trans h
  · cases h
theorem step_sound (prim : Oracle) (hp : ∀ f vs bx r, primT f vs bx = some r → tab f = none ∧ prim f vs bx = some r) (Cl : Oracle) (n f : Nat) (vs : List V) (bx : List (List C)) (r) (h : step Cl n f vs bx = some r) :
    (∃ fn, tab f = some fn ∧ evBody Cl n fn vs bx = some r) ∨ (tab f = none ∧ prim f vs bx = some r) := by
  unfold step at h
  split at h
  · exact .inl ⟨k3.fn, rfl, evBodyA_inv (st3_sound _ _ _ _ _ h)⟩
  · exact .inl ⟨k4.fn, rfl, evBodyA_inv (st4_sound _ _ _ _ _ h)⟩
  · exact .inl ⟨k5.fn, rfl, evBodyA_inv (st5_sound _ _ _ _ _ h)⟩
  · exact .inl ⟨k7.fn, rfl, evBodyA_inv (st7_sound _ _ _ _ _ h)⟩
  · exact .inl ⟨k6.fn, rfl, evBodyA_inv (st6_sound _ _ _ _ _ h)⟩
  · exact .inl ⟨k8.fn, rfl, evBodyA_inv (st8_sound _ _ _ _ _ h)⟩
  · exact .inl ⟨k19.fn, rfl, evBodyA_inv (st19_sound _ _ _ _ _ h)⟩
  · exact .inl ⟨k20.fn, rfl, evBodyA_inv (st20_sound _ _ _ _ _ h)⟩
  · exact .inl ⟨k11.fn, rfl, evBodyA_inv (st11_sound _ _ _ _ _ h)⟩
  · exact .inl ⟨k12.fn, rfl, evBodyA_inv (st12_sound _ _ _ _ _ h)⟩
  · exact .inl ⟨k13.fn, rfl, evBodyA_inv (st13_sound _ _ _ _ _ h)⟩
  · exact .inl ⟨k16.fn, rfl, evBodyA_inv (st16_sound _ _ _ _ _ h)⟩
  · exact .inl ⟨k17.fn, rfl, evBodyA_inv (st17_sound _ _ _ _ _ h)⟩
  · exact .inl ⟨k18.fn, rfl, evBodyA_inv (st18_sound _ _ _ _ _ h)⟩
  · exact .inl ⟨k9.fn, rfl, evBodyA_inv (st9_sound _ _ _ _ _ h)⟩
  · exact .inl ⟨k10.fn, rfl, evBodyA_inv (st10_sound _ _ _ _ _ h)⟩
  · exact .inl ⟨k39.fn, rfl, evBodyA_inv (st39_sound _ _ _ _ _ h)⟩
  · exact .inl ⟨k38.fn, rfl, evBodyA_inv (st38_sound _ _ _ _ _ h)⟩
  · exact .inl ⟨k40.fn, rfl, evBodyA_inv (st40_sound _ _ _ _ _ h)⟩
  · exact .inl ⟨k41.fn, rfl, evBodyA_inv (st41_sound _ _ _ _ _ h)⟩
  · exact .inl ⟨k22.fn, rfl, evBodyA_inv (st22_sound _ _ _ _ _ h)⟩
  · exact .inl ⟨k23.fn, rfl, evBodyA_inv (st23_sound _ _ _ _ _ h)⟩
  · exact .inl ⟨k26.fn, rfl, evBodyA_inv (st26_sound _ _ _ _ _ h)⟩
  · exact .inl ⟨k24.fn, rfl, evBodyA_inv (st24_sound _ _ _ _ _ h)⟩
  · exact .inl ⟨k28.fn, rfl, evBodyA_inv (st28_sound _ _ _ _ _ h)⟩
  · exact .inl ⟨k29.fn, rfl, evBodyA_inv (st29_sound _ _ _ _ _ h)⟩
  · exact .inl ⟨k30.fn, rfl, evBodyA_inv (st30_sound _ _ _ _ _ h)⟩
  · exact .inl ⟨k31.fn, rfl, evBodyA_inv (st31_sound _ _ _ _ _ h)⟩
  · exact .inl ⟨k32.fn, rfl, evBodyA_inv (st32_sound _ _ _ _ _ h)⟩
  · exact .inl ⟨k33.fn, rfl, evBodyA_inv (st33_sound _ _ _ _ _ h)⟩
  · exact .inl ⟨k36.fn, rfl, evBodyA_inv (st36_sound _ _ _ _ _ h)⟩
  · exact .inl ⟨k37.fn, rfl, evBodyA_inv (st37_sound _ _ _ _ _ h)⟩
  · exact .inl ⟨k21.fn, rfl, evBodyA_inv (st21_sound _ _ _ _ _ h)⟩
  · exact .inl ⟨k54.fn, rfl, evBodyA_inv (st54_sound _ _ _ _ _ h)⟩
  · exact .inl ⟨k55.fn, rfl, evBodyA_inv (st55_sound _ _ _ _ _ h)⟩
  · exact .inl ⟨k43.fn, rfl, evBodyA_inv (st43_sound _ _ _ _ _ h)⟩
  · exact .inl ⟨k25.fn, rfl, evBodyA_inv (st25_sound _ _ _ _ _ h)⟩
  · exact .inl ⟨k27.fn, rfl, evBodyA_inv (st27_sound _ _ _ _ _ h)⟩
  · exact .inl ⟨k46.fn, rfl, evBodyA_inv (st46_sound _ _ _ _ _ h)⟩
  · exact .inl ⟨k47.fn, rfl, evBodyA_inv (st47_sound _ _ _ _ _ h)⟩
  · exact .inl ⟨k48.fn, rfl, evBodyA_inv (st48_sound _ _ _ _ _ h)⟩
  · exact .inl ⟨k49.fn, rfl, evBodyA_inv (st49_sound _ _ _ _ _ h)⟩
  · exact .inl ⟨k51.fn, rfl, evBodyA_inv (st51_sound _ _ _ _ _ h)⟩
  · exact .inl ⟨k42.fn, rfl, evBodyA_inv (st42_sound _ _ _ _ _ h)⟩
  · exact .inl ⟨k44.fn, rfl, evBodyA_inv (st44_sound _ _ _ _ _ h)⟩
  · exact .inl ⟨k63.fn, rfl, evBodyA_inv (st63_sound _ _ _ _ _ h)⟩
  · exact .inl ⟨k59.fn, rfl, evBodyA_inv (st59_sound _ _ _ _ _ h)⟩
  · exact .inl ⟨k60.fn, rfl, evBodyA_inv (st60_sound _ _ _ _ _ h)⟩
  · exact .inl ⟨k69.fn, rfl, evBodyA_inv (st69_sound _ _ _ _ _ h)⟩
  · exact .inl ⟨k82.fn, rfl, evBodyA_inv (st82_sound _ _ _ _ _ h)⟩
  · exact .inl ⟨k83.fn, rfl, evBodyA_inv (st83_sound _ _ _ _ _ h)⟩
  · exact .inl ⟨k90.fn, rfl, evBodyA_inv (st90_sound _ _ _ _ _ h)⟩
  · exact .inl ⟨k91.fn, rfl, evBodyA_inv (st91_sound _ _ _ _ _ h)⟩
  · exact .inl ⟨k92.fn, rfl, evBodyA_inv (st92_sound _ _ _ _ _ h)⟩
  · exact .inl ⟨k95.fn, rfl, evBodyA_inv (st95_sound _ _ _ _ _ h)⟩
  · exact .inl ⟨k96.fn, rfl, evBodyA_inv (st96_sound _ _ _ _ _ h)⟩
  · exact .inl ⟨k97.fn, rfl, evBodyA_inv (st97_sound _ _ _ _ _ h)⟩
  · exact .inl ⟨k98.fn, rfl, evBodyA_inv (st98_sound _ _ _ _ _ h)⟩
  · exact .inr (hp _ _ _ _ h)
theorem T_sound (prim : Oracle) (hp : ∀ f vs bx r, primT f vs bx = some r → tab f = none ∧ prim f vs bx = some r) : ∀ (n : Nat), OLe (T n) (evN tab prim n)
  | 0 => fun f vs bx r h => by cases h
  | n + 1 => fun f vs bx r h => by
    simp only [evN]
    rcases step_sound prim hp (T n) n f vs bx r h with ⟨fn, h1, h2⟩ | ⟨h1, h2⟩
    · simp only [h1]
      exact evBody_mono (T_sound prim hp n) n fn vs bx r h2
    · simp only [h1]
      exact h2
theorem T_succ (m : Nat) : T (m + 1) = step (T m) m := rfl
attribute [irreducible] T
end Go.Proofs.YteaaelhndaijoaaDoor
