/- A part of the proof. -/
import Derived.Test.YtfmpdgeiodnnfaaGreatDoorQ4
set_option maxRecDepth 100000
set_option maxHeartbeats 40000000
set_option linter.all false
namespace Go.Proofs.YtfmpdgeiodnnfaaGreatDoor
open Go Go.ax
noncomputable section
variable (Cl:bX) (n:Nat)
def aaz m0 a0 a1 a2 a3 a4 a5:=ST.hd 236 0 Cl n [] [m0] ([sE 0 (lC (.im a0) 1 a1),sE 1 (sC a2),sE 5 (iC a3),sE 6 (lC (.im a4) 1 a5)])
def aaA m0 a0 a1 a2 a3 a4:=ST.hd 236 0 Cl n [] [m0] ([sE 0 (lC (.im a0) 1 a1),sE 1 (sC a2),sE 5 (iC a3),sE 6 (lC .own 1 a4)])
def Km m1 a0 a1 a2 a3:=ST.hd 236 1 Cl n [] [m1] ([sE 0 (lC (.im a0) 1 a1),sE 1 (sC a2),sE 5 (iC a3)])
def Kn m2 a0 a1 a2 a3:=ST.hd 236 2 Cl n [] [m2] ([sE 0 (lC (.im a0) 1 a1),sE 1 (sC a2),sE 5 (iC a3)])
def RF m3 a0 a1 a2 a3:=ST.hd 236 3 Cl n [] [m3] ([sE 0 (lC (.im a0) 1 a1),sE 1 (sC a2),sE 5 (iC a3)])
theorem alx {Cl n m0 a0 a1 a2 a3 a4 a5}:aaz Cl n (m0+1) a0 a1 a2 a3 a4 a5=gd (a4&&true&&true) (aH (cm a3) fun o7=>gd (decide (o7≤a1.length)&&decide (a1.length≤a1.length)) (gd (fS 16 (List.take (a1.length - o7) (List.drop o7 a1)) (whole ([[D.str []]].set 0 [D.str a2])).isEmpty&&true&&true&&true&&true&&decide ((1+(List.take (a1.length - o7) (List.drop o7 a1)).length) * 16≤140737488355328)) (some (.one (lC (.im false) 1 (aV (whole ([[D.str []]].set 0 [D.str a2])++List.take (a1.length - o7) (List.drop o7 a1)))),[])))):=by kernel_rfl
theorem aly {Cl n m0 a0 a1 a2 a3 a4}:aaA Cl n (m0+1) a0 a1 a2 a3 a4=gd (rO a4.length 16) (aH (cm a3) fun o8=>gd (decide (o8≤a1.length)&&decide (a1.length≤a1.length)) (gd (fS 16 (List.take (a1.length - o8) (List.drop o8 a1)) (a4++whole ([[D.str []]].set 0 [D.str a2])).isEmpty&&true&&true&&(a4++whole ([[D.str []]].set 0 [D.str a2])).length==(a4++whole ([[D.str []]].set 0 [D.str a2])).length&&true&&decide (((a4++whole ([[D.str []]].set 0 [D.str a2])).length+(List.take (a1.length - o8) (List.drop o8 a1)).length) * 16≤140737488355328)) (some (.one (lC (.im false) 1 (aV (a4++whole ([[D.str []]].set 0 [D.str a2])++List.take (a1.length - o8) (List.drop o8 a1)))),[])))):=by kernel_rfl
theorem alz {Cl n m1 a0 a1 a2 a3}:Km Cl n (m1+1) a0 a1 a2 a3=aH (cm a3) fun o6=>gd (decide (o6≤a1.length)) (gd (fS 16 (List.take (o6 - 0) (List.drop 0 a1)) false&&decide ((List.take (o6 - 0) (List.drop 0 a1)).length * 16≤140737488355328)) (bif (List.take (o6 - 0) (List.drop 0 a1)).isEmpty then aaz Cl n n a0 a1 a2 a3 true (List.take (o6 - 0) (List.drop 0 a1)) else aaA Cl n n a0 a1 a2 a3 (List.take (o6 - 0) (List.drop 0 a1)))):=by kernel_rfl
theorem alA {Cl n m2 a0 a1 a2 a3}:Kn Cl n (m2+1) a0 a1 a2 a3=bif decide (a3 < ae a1.length) then iR [.str] 0 1 a1 a3 fun v2=>bif bytesLess v2.1 a2 then Kn Cl n m2 a0 a1 a2 (ao (a3+1)) else RF Cl n n a0 a1 a2 a3 else RF Cl n n a0 a1 a2 a3:=by kernel_rfl
theorem aaB {Cl n m3 a0 a1 a2 a3}:RF Cl n (m3+1) a0 a1 a2 a3=bif decide (a3 < ae a1.length) then iR [.str] 0 1 a1 a3 fun v5=>bif v5.1==a2 then some (.one (lC (.im a0) 1 a1),[]) else Km Cl n n a0 a1 a2 a3 else Km Cl n n a0 a1 a2 a3:=by kernel_rfl
theorem ag2 {m x0 x1 x2}:Ev (Kn (T m) m m x0 x1 x2 0) (T (m+1) 236 [.one (lC (.im x0) 1 x1),.one (sC x2)] []):=aW
end
end Go.Proofs.YtfmpdgeiodnnfaaGreatDoor
