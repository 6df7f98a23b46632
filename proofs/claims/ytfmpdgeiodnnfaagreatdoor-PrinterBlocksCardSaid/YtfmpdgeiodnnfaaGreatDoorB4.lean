/- A part of the proof. -/
import Derived.Test.YtfmpdgeiodnnfaaGreatDoorB3
set_option maxRecDepth 100000
set_option maxHeartbeats 40000000
set_option linter.all false
namespace Go.Proofs.YtfmpdgeiodnnfaaGreatDoor
open Go Go.ax
noncomputable section
variable (Cl:bX) (n:Nat)
abbrev RR:=List (List D)
abbrev BB:=List UInt8
abbrev iC (n:Int):C:=.d (.int .i64 n)
abbrev bC (b:Bool):C:=.d (.bool b)
abbrev sC (s:List UInt8):C:=.d (.str s)
abbrev lC (t:Tag) (z:Nat) (r:List (List D)):C:=.d (.sl t z r)
abbrev pE:V:=.one (.ptr (.e 0) 0 0)
abbrev ak (n:Int):Int:=IntKind.i64.wrap n
abbrev w8 (n:Int):Int:=IntKind.u8.wrap n
abbrev iO (n:Int):Int:=IntKind.u64.wrap n
abbrev OR:=Option (V×List (List C))
abbrev rT:OR:=some (.one (.d (.bool true)),[])
abbrev rF:OR:=some (.one (.d (.bool false)),[])
def iR (ds:List DS) (c n:Nat) (L:RR) (x:Int) (K:au ds→OR):OR:=aD (bY x) fun i=>rA ds c n L i K
def iV (ds:List DS) (c n:Nat) (L:RR) (x:Int) (K:au ds→OR):OR:=aD (bY x) fun i=>gd (decide (i < L.length)) (aD L[0+i]? fun o=>gd (decide (c+n≤o.length)) (cA ds (List.take n (List.drop c o)) K))
@[simp] abbrev zM {A:Type}:Tag→(Bool→A)→A→A
 | .im b,f,_=>f b
 | .own,_,g=>g
@[simp] abbrev zZ {R:Type}:Tag→(Tag→Option R)→Option R
 | .im b,f=>f (.im b)
 | .own,f=>f .own
@[simp] abbrev zI:Tag→(ds:List DS)→Nat→Nat→RR→Int→(au ds→OR)→OR
 | .im _=>iR
 | .own=>iV
@[simp] abbrev zB:Tag→Bool
 | .im b=>b
 | .own=>false
@[simp] abbrev zW:Tag→RR→RR
 | .im _,l=>l
 | .own,l=>aW (whole l)
@[simp] abbrev zR:Tag→RR→RR
 | .im _,l=>l
 | .own,l=>aW l
@[simp] abbrev zO:Tag→Bool→OR→OR
 | .im _,_,K=>K
 | .own,b,K=>gd b K
@[simp] abbrev rO (l k:Nat):Bool:=l==l&&true&&decide ((l+1) * k≤140737488355328)
@[simp] abbrev rL (l:Nat):Bool:=decide (0+l≤l)
abbrev rI (x:Int):OR:=some (.one (iC x),[])
abbrev rS (x:BB):OR:=some (.one (sC x),[])
def sE (n:Nat) (x:C):Key×mN:=(.s n,⟨.one x,0⟩)
def bZ (r:aI) (g:Nat) (ds:List DS) (p:au ds):St:=(.r r,⟨fx ds.length,g⟩)::A' r 0 (bx ds p)
def T (n:Nat):bX:=nH pQ Ao n
theorem evT {f:Nat} {m:Nat} {vs:List V} {bs:List (List C)} {y:OR} {r:V×List (List C)} (h:y=some r) (ht:(sS ST.fns f).isSome=true:=by kernel_rfl) (hb:Ey (ST.an f) (T m) m (ST.k f) vs bs=y:=by kernel_rfl):T (m+1) f vs bs=some r:=by
 show nH pQ Ao (m+1) f vs bs=some r
 have e:pQ f=some (ST.k f).fn:=by
  obtain ⟨x,hx⟩:=yF.1 ht
  simp only [pQ,jE.pQ,hx]
 simp only [nH,e]
 exact XM (hb.trans h)
abbrev Ev (x o:OR):Prop:=∀r,x=some r→o=some r
theorem aV {f m:Nat} {vs:List V} {bs:List (List C)} {y:OR} (ht:(sS ST.fns f).isSome=true:=by kernel_rfl) (hb:Ey (ST.an f) (T m) m (ST.k f) vs bs=y:=by kernel_rfl):Ev y (T (m+1) f vs bs):=fun _ h=>evT h ht hb
attribute [irreducible] T
abbrev cZ:List DS:=[.im 3,.im 2,.im 4]
abbrev eO:List DS:=[.int .i64,.int .i64,.int .i64]
abbrev eA:List DS:=[.int .i64,.str,.str,.str,.str,.int .i64,.im 1,.im 3,.im 3,.int .i64]
abbrev eb:List DS:=[.str,.im 1,.im 3]
abbrev oU:List DS:=[.str,.im 3]
abbrev ao:List DS:=[.tg 1,.int .i64]
abbrev sh7:List DS:=[.im 3,.im 2,.own 4]
abbrev fw:List DS:=[.str,.im 3,.im 6,.im 10]
abbrev bl:List DS:=[.bu 82,.tg 1]
abbrev yo:List DS:=[.bu 82,.dead]
abbrev jN:List DS:=[.lk 1000000000000 [(999999,42),(999999,43)]]
abbrev kY:List DS:=[.lk 1000000000000 [(999999,47)]]
abbrev Hb:List DS:=[.str,.tg 3]
abbrev kZ:List DS:=[.str,.str,.im 4]
abbrev jz:List DS:=[.int .i64,.str,.im 4]
abbrev apw:List DS:=[.ptr 0 0,.im 3,.str,.im 3,.im 6,.im 10,.str,.im 2,.int .i64,.int .i64,.int .i64]
abbrev apx:List DS:=[.ptr 0 0,.im 3,.str,.tg 3,.tg 6,.tg 10,.str,.im 2,.int .i64,.int .i64,.int .i64]
abbrev apy:List DS:=[.ptr 0 0,.im 3,.str,.tg 3,.tg 6,.own 10,.str,.im 2,.int .i64,.int .i64,.int .i64]
abbrev aR:List DS:=[.ptr 1 0,.im 3,.str,.tg 3,.tg 6,.tg 10,.str,.im 2,.int .i64,.int .i64,.int .i64]
abbrev ac9:List DS:=[.ptr 1 0,.im 3,.str,.tg 3,.own 6,.tg 10,.str,.im 2,.int .i64,.int .i64,.int .i64]
abbrev ac':List DS:=[.ptr 1 0,.im 3,.str,.tg 3,.tg 6,.own 10,.str,.im 2,.int .i64,.int .i64,.int .i64]
abbrev Dx:List DS:=[.str,.int .i64,.str]
abbrev ka:List DS:=[.tg 3,.tg 2,.tg 4]
abbrev cf:List DS:=[.int .i64]
abbrev kb:List DS:=[.int .i64,.str]
abbrev Dy:List DS:=[.str,.int .i64,.str,.int .i64]
abbrev kz:List DS:=[.lk 67 [(0,0),(1,0),(2,0)]]
abbrev ME:List DS:=[.int .i64,.str,.int .i64,.str,.int .i64,.int .i64]
abbrev bw:List DS:=[.str,.tg 1,.tg 3,.str,.tg 1]
abbrev apz:List DS:=[.str,.own 3]
abbrev apA:List DS:=[.int .i64,.str,.str,.str,.str,.int .i64,.im 1,.own 3,.im 3,.int .i64]
abbrev apB:List DS:=[.int .i64,.str,.str,.str,.str,.int .i64,.tg 1,.tg 3,.tg 3,.int .i64]
abbrev uC:List DS:=[.str,.str,.int .i64]
abbrev ada:List DS:=[.str,.str,.tg 4]
abbrev apC:List DS:=[.int .i64,.str,.tg 4]
abbrev nk:List DS:=[.str,.tg 1,.tg 3]
abbrev apD:List DS:=[.int .i64,.str,.own 4]
abbrev AA:List DS:=[.str,.str,.im 1]
abbrev nn:List DS:=[.lk 155 [(0,0),(1,0),(2,0)]]
abbrev s9:List DS:=[.lk 203 [(0,0),(1,0),(2,0)]]
abbrev bj:RS:=(.val (.one (.bool)) [])
abbrev nX:RS:=(.val (.agg cZ) [])
abbrev fI:RS:=(.val (.one (.str)) [])
abbrev dw:RS:=(.val (.agg eO) [])
abbrev rs4:RS:=(.val (.one (.ptr 0 0)) [ao])
abbrev G':RS:=(.aq [(.one (.im 2)),(.one (.int .i64)),(.one (.int .i64))] [])
abbrev nY:RS:=(.val (.agg fw) [ao])
abbrev Tk:RS:=(.val (.one (.im 3)) [ao])
abbrev Tl:RS:=(.aq [(.one (.int .i64)),.fm] [bl])
abbrev j8:RS:=(.aq [] [bl])
abbrev Tj:RS:=(.val (.one (.str)) [yo])
abbrev Mx:RS:=(.val (.agg eO) [cZ])
abbrev My:RS:=(.val (.agg eO) [cZ,jN])
abbrev Mz:RS:=(.val (.agg eO) [cZ,kY])
abbrev ape:RS:=(.val (.one (.lk 39 [(0,0),(1,0)])) [cZ,jN])
abbrev apf:RS:=(.val (.one (.lk 39 [(0,0),(1,0)])) [cZ,kY])
abbrev acL:RS:=(.val (.one (.int .i64)) [ao])
abbrev df:RS:=(.val (.one (.im 1)) [])
abbrev apg:RS:=(.val (.one (.im 4)) [ao])
abbrev yj:RS:=(.val (.agg eb) [ao])
abbrev yk:RS:=(.aq [(.agg oU),(.one (.int .i64))] [])
abbrev uy:RS:=(.val (.one (.str)) [aR,ao])
abbrev G8:RS:=(.val (.agg eA) [])
abbrev pO:RS:=(.val (.one (.int .i64)) [ac9,ao])
abbrev Ax:RS:=(.val (.one (.int .i64)) [ac',ao])
abbrev lB:RS:=(.aq [] [aR,ao])
abbrev iK:RS:=(.val (.one (.int .i64)) [])
abbrev acM:RS:=(.val (.agg kb) [ao])
abbrev aph:RS:=(.val (.agg oU) [])
abbrev G9:RS:=(.val (.one (.bool)) [[.tg 6],[.tg 1],kz])
abbrev oT:RS:=(.aq [(.one (.int .i64)),(.one (.int .i64))] [bw])
abbrev s8:RS:=(.aq [(.agg jz),(.one (.int .i64))] [bw])
abbrev uz:RS:=(.val (.one (.int .i64)) [aR,ao])
abbrev yl:RS:=(.aq [(.agg kb),(.one (.im 1)),(.one (.bool))] [bw])
abbrev Du:RS:=(.aq [(.one (.int .i64)),(.one (.str)),(.one (.int .i64))] [bw])
abbrev Ay:RS:=(.aq [(.one (.im 1)),(.one (.bool))] [bw])
abbrev acN:RS:=(.aq [(.agg eb),(.one (.str))] [aR,ao])
abbrev qH:RS:=(.aq [] [nn,[.tg 6],[.tg 1]])
abbrev Dv:RS:=(.aq [] [s9,[.tg 6],[.tg 1]])
abbrev acO:RS:=(.aq [] [])
abbrev c9 K:=(aH bj (Cl 9 [] []) K:OR)
abbrev V8 h0 h1 K:=(aH nX (Cl 10 [.one (lC (.im h0) 1 h1)] []) K:OR)
abbrev N4 h0 h1 h2 h3 h4 h5 K:=(aH fI (Cl 11 [.agg [lC (.im h0) 3 h1,lC (.im h2) 2 h3,lC (.im h4) 4 h5]] []) K:OR)
abbrev c12 h0 h1 h2 h3 h4 h5 K:=(aH dw (Cl 12 [.agg [lC (.im h0) 3 h1,lC (.im h2) 2 h3,lC (.im h4) 4 h5]] []) K:OR)
abbrev Wm h0 h1 h2 h3 h4 K:=(aH fI (Cl 19 [.agg [sC h0,lC (.im h1) 1 h2,lC (.im h3) 3 h4]] []) K:OR)
abbrev c21 h0 h1 h2 K:=(aH fI (Cl 21 [.agg [sC h0,lC (.im h1) 3 h2]] []) K:OR)
abbrev c28 h0 h1 K:=(aH rs4 (Cl 28 [.one (lC (.im h0) 1 h1)] []) K:OR)
abbrev wW h0 h1 h2 K:=(aH fI (Cl 15 [.one (lC (.im h0) 6 h1),.one (iC h2)] []) K:OR)
abbrev Be h0 h1 K:=(aH fI (Cl 17 [.agg [iC h0,sC h1]] []) K:OR)
abbrev Bf h0 h1 h2 h3 h4 K:=(aH G' (Cl 32 [.agg [sC h0,lC (.im h1) 1 h2,lC (.im h3) 3 h4]] []) K:OR)
abbrev Od h0 h1 h2 K:=(aH nY (Cl 34 [pE,.one (lC (.im h0) 3 h1)] [bx ao h2]) K:OR)
abbrev Oc h0 h1 h2 h3 h4 h5 h6 h7 h8 h9 dj gO K:=(aH nY (Cl 33 [pE,.one (lC (.im h0) 3 h1),.agg [sC h2,lC (.im h3) 1 h4,lC (.im h5) 3 h6],.one (lC (.im h7) 2 h8),.one (iC h9),.one (sC dj)] [bx ao gO]) K:OR)
abbrev c31 h0 K:=(aH Tk (Cl 31 [pE] [bx ao h0]) K:OR)
abbrev Wy h0 h1 h2 h3 h4 h5 h6 h7 K:=(aH j8 (Cl 36 [pE,.agg [sC h0,lC (.im h1) 3 h2,lC (.im h3) 6 h4,lC (.im h5) 10 h6]] [bx bl h7]) K:OR)
abbrev c37 h0 K:=(aH Tj (Cl 37 [pE] [bx bl h0]) K:OR)
abbrev dv h0 h1 K:=(aH Tl (Cl 35 [pE,.one (sC h0)] [bx bl h1]) K:OR)
abbrev c40 h0 K:=(aH Mx (Cl 40 [pE] [bx cZ h0]) K:OR)
abbrev c39 h0 h1 K:=(aH My (Cl 39 [pE,.one (.ptr (.e 1) 0 0)] [bx cZ h0,bx jN h1]) K:OR)
abbrev c44 h0 K:=(aH Mx (Cl 44 [pE] [bx cZ h0]) K:OR)
abbrev afo h0 h1 K:=(aH Mz (Cl 39 [pE,.one (.ptr (.e 1) 0 0)] [bx cZ h0,bx kY h1]) K:OR)
abbrev c38 h0 K:=(aH ape (Cl 38 [.one (.fn 1000000000000 [] [.fn 42 [] [],.fn 43 [] []]),pE] [bx cZ h0]) K:OR)
abbrev afn h0 K:=(aH apf (Cl 38 [.one (.fn 1000000000000 [] [.fn 47 [] []]),pE] [bx cZ h0]) K:OR)
abbrev ef h0 h1 K:=(aH acL (Cl 73 [pE,.one (iC h0)] [bx ao h1]) K:OR)
abbrev WE K:=(aH df (Cl 48 [] []) K:OR)
abbrev c74 h0 h1 h2 h3 K:=(aH apg (Cl 74 [pE,.one (lC (.im h0) 1 h1),.one (iC h2)] [bx ao h3]) K:OR)
abbrev Em h0 K:=(aH fI (Cl 57 [.one (iC h0)] []) K:OR)
abbrev yR h0 h1 K:=(aH fI (Cl 58 [.one (lC (.im h0) 4 h1)] []) K:OR)
abbrev WG h0 h1 h2 h3 h4 K:=(aH bj (Cl 55 [.agg [sC h0,lC (.im h1) 1 h2,lC (.im h3) 3 h4]] []) K:OR)
abbrev oo h0 h1 h2 K:=(aH fI (Cl 56 [.one (lC (.im h0) 1 h1),.one (sC h2)] []) K:OR)
abbrev c53 h0 h1 h2 K:=(aH bj (Cl 53 [.agg [sC h0,lC (.im h1) 3 h2]] []) K:OR)
abbrev fE h0 K:=(aH bj (Cl 62 [.one (sC h0)] []) K:OR)
abbrev Ek h0 h1 h2 K:=(aH bj (Cl 25 [.one (lC (.im h0) 6 h1),.one (iC h2)] []) K:OR)
abbrev ki h0 h1 h2 h3 K:=(aH j8 (Cl 50 [pE,.one (lC (.im h0) 6 h1),.one (iC h2)] [bx bl h3]) K:OR)
abbrev c80 h0 h1 h2 h3 K:=(aH yj (Cl 80 [pE,.one (sC h0),.one (lC (.im h1) 1 h2)] [bx ao h3]) K:OR)
abbrev WJ h0 h1 h2 h3 h4 K:=(aH df (Cl 81 [.agg [sC h0,lC (.im h1) 1 h2,lC (.im h3) 3 h4]] []) K:OR)
abbrev Oh h0 h1 h2 h3 h4 h5 K:=(aH yk (Cl 82 [.agg [sC h0,lC (.im h1) 1 h2,lC (.im h3) 3 h4],.one (sC h5)] []) K:OR)
abbrev Ob h0 h1 h2 h3 h4 K:=(aH bj (Cl 26 [.agg [sC h0,lC (.im h1) 1 h2,lC (.im h3) 3 h4]] []) K:OR)
abbrev c85 h0 h1 h2 h3 h4 h5 h6 h7 K:=(aH uy (Cl 85 [pE,.agg [sC h0,lC (.im h1) 1 h2,lC (.im h3) 3 h4],.one (sC h5)] [bx aR h6,bx ao h7]) K:OR)
abbrev kj h0 K:=(aH G8 (Cl 86 [.one (iC h0)] []) K:OR)
abbrev Bg h0 h1 h2 h3 h4 h5 K:=(aH fI (Cl 83 [.agg [sC h0,lC (.im h1) 1 h2,lC (.im h3) 3 h4],.one (sC h5)] []) K:OR)
abbrev c87 h0 h1 h2 K:=(aH pO (Cl 87 [pE,.one (sC h0)] [bx aR h1,bx ao h2]) K:OR)
abbrev pk h0 h1 h2 K:=(aH pO (Cl 88 [pE,.one (iC h0)] [bx aR h1,bx ao h2]) K:OR)
abbrev qR h0 h1 h2 h3 h4 h5 h6 h7 h8 h9 dj gO iE sq sr K:=(aH Ax (Cl 89 [pE,.agg [iC h0,sC h1,sC h2,sC h3,sC h4,iC h5,lC (.im h6) 1 h7,lC (.im h8) 3 h9,lC (.im dj) 3 gO,iC iE]] [bx aR sq,bx ao sr]) K:OR)
abbrev qS h0 h1 h2 h3 h4 h5 h6 h7 h8 h9 dj gO iE sq sr K:=(aH Ax (Cl 90 [pE,.agg [iC h0,sC h1,sC h2,sC h3,sC h4,iC h5,lC (.im h6) 1 h7,lC (.im h8) 3 h9,lC (.im dj) 3 gO,iC iE]] [bx aR sq,bx ao sr]) K:OR)
abbrev En h0 h1 h2 h3 K:=(aH lB (Cl 84 [pE,.one (iC h0),.one (iC h1)] [bx aR h2,bx ao h3]) K:OR)
abbrev c91 h0 K:=(aH j8 (Cl 91 [pE] [bx bl h0]) K:OR)
abbrev ie h0 h1 h2 K:=(aH j8 (Cl 92 [pE,.one (iC h0),.one (sC h1)] [bx bl h2]) K:OR)
abbrev c93 h0 h1 h2 h3 h4 h5 h6 h7 h8 h9 K:=(aH j8 (Cl 93 [pE,.agg [sC h0,lC (.im h1) 3 h2,lC (.im h3) 6 h4,lC (.im h5) 10 h6],.one (iC h7),.one (iC h8)] [bx bl h9]) K:OR)
abbrev Wz h0 h1 h2 h3 h4 h5 K:=(aH dw (Cl 41 [.agg [lC (.im h0) 3 h1,lC (.im h2) 2 h3,lC (.im h4) 4 h5]] []) K:OR)
abbrev WA h0 h1 h2 h3 h4 h5 h6 K:=(aH dw (Cl 42 [.agg [lC (.im h0) 3 h1,lC (.im h2) 2 h3,lC (.im h4) 4 h5],.one (iC h6)] []) K:OR)
abbrev WC h0 h1 h2 h3 h4 h5 h6 K:=(aH dw (Cl 43 [.agg [lC (.im h0) 3 h1,lC (.im h2) 2 h3,lC (.im h4) 4 h5],.one (iC h6)] []) K:OR)
abbrev El h0 h1 h2 h3 h4 h5 h6 K:=(aH iK (Cl 45 [.agg [lC (.im h0) 3 h1,lC (.im h2) 2 h3,lC (.im h4) 4 h5],.one (sC h6)] []) K:OR)
abbrev c46 h0 h1 h2 K:=(aH dw (Cl 46 [.one (iC h0),.one (iC h1),.one (iC h2)] []) K:OR)
abbrev WD h0 h1 h2 h3 h4 h5 h6 K:=(aH dw (Cl 47 [.agg [lC (.im h0) 3 h1,lC (.im h2) 2 h3,lC (.im h4) 4 h5],.one (iC h6)] []) K:OR)
abbrev c49 K:=(aH df (Cl 49 [] []) K:OR)
abbrev N5 h0 h1 h2 K:=(aH acM (Cl 128 [pE,.one (lC (.im h0) 1 h1)] [bx ao h2]) K:OR)
abbrev afk h0 h1 h2 h3 h4 K:=(aH aph (Cl 111 [.agg [sC h0,lC (.im h1) 1 h2,lC (.im h3) 3 h4]] []) K:OR)
abbrev yQ h0 h1 h2 K:=(aH bj (Cl 110 [.one (lC (.im h0) 1 h1),.one (sC h2)] []) K:OR)
abbrev uW h0 h1 K:=(aH bj (Cl 95 [.one (lC (.im h0) 1 h1)] []) K:OR)
abbrev Wb h0 h1 K:=(aH j8 (Cl 112 [pE,.one (iC h0)] [bx bl h1]) K:OR)
abbrev Wa h0 h1 h2 K:=(aH bj (Cl 108 [.one (lC (.im h0) 4 h1),.one (iC h2)] []) K:OR)
abbrev c116 h0 K:=(aH bj (Cl 116 [.one (sC h0)] []) K:OR)
abbrev V9 h0 h1 h2 h3 h4 h5 K:=(aH fI (Cl 102 [.agg [iC h0,sC h1,iC h2,sC h3,iC h4,iC h5]] []) K:OR)
abbrev Bb h0 K:=(aH fI (Cl 103 [.one (iC h0)] []) K:OR)
abbrev N3 h0 K:=(aH fI (Cl 104 [.one (iC h0)] []) K:OR)
abbrev Wc h0 h1 h2 h3 K:=(aH yj (Cl 137 [pE,.one (sC h0),.one (lC (.im h1) 1 h2)] [bx ao h3]) K:OR)
abbrev c138 h0 h1 h2 h3 h4 K:=(aH yj (Cl 138 [pE,.one (sC h0),.one (iC h1),.one (lC (.im h2) 1 h3)] [bx ao h4]) K:OR)
abbrev Og h0 h1 h2 K:=(aH bj (Cl 71 [.one (lC (.im h0) 1 h1),.one (sC h2)] []) K:OR)
abbrev c72 h0 h1 h2 K:=(aH bj (Cl 72 [.one (lC (.im h0) 4 h1),.one (iC h2)] []) K:OR)
abbrev Oe h0 K:=(aH bj (Cl 64 [.one (sC h0)] []) K:OR)
abbrev c70 h0 h1 K:=(aH bj (Cl 70 [.one (lC (.im h0) 1 h1)] []) K:OR)
abbrev N7 h0 h1 h2 K:=(aH s8 (Cl 140 [pE,.one (lC (.im h0) 1 h1)] [bx bw h2]) K:OR)
abbrev c139 h0 h1 h2 K:=(aH oT (Cl 139 [pE,.one (lC (.im h0) 1 h1)] [bx bw h2]) K:OR)
abbrev c146 h0 h1 K:=(aH uy (Cl 146 [pE] [bx aR h0,bx ao h1]) K:OR)
abbrev wV h0 h1 h2 h3 h4 h5 h6 h7 K:=(aH pO (Cl 147 [pE,.agg [iC h0,sC h1,iC h2,sC h3,iC h4,iC h5]] [bx aR h6,bx ao h7]) K:OR)
abbrev c145 h0 h1 h2 h3 h4 K:=(aH uz (Cl 145 [pE,.one (iC h0),.one (iC h1),.one (iC h2)] [bx aR h3,bx ao h4]) K:OR)
abbrev c141 h0 h1 h2 K:=(aH uz (Cl 141 [pE,.one (bC h0)] [bx aR h1,bx ao h2]) K:OR)
abbrev Wd h0 h1 K:=(aH lB (Cl 142 [pE] [bx aR h0,bx ao h1]) K:OR)
abbrev c143 h0 h1 h2 h3 K:=(aH lB (Cl 143 [pE,.one (iC h0),.one (iC h1)] [bx aR h2,bx ao h3]) K:OR)
abbrev r8 h0 h1 h2 h3 h4 K:=(aH pO (Cl 144 [pE,.one (iC h0),.one (iC h1),.one (iC h2)] [bx aR h3,bx ao h4]) K:OR)
abbrev afl h0 h1 K:=(aH fI (Cl 149 [.one (sC h0),.one (iC h1)] []) K:OR)
abbrev Bc h0 h1 h2 h3 h4 h5 h6 h7 h8 K:=(aH fI (Cl 150 [.agg [sC h0,lC (.im h1) 3 h2,lC (.im h3) 6 h4,lC (.im h5) 10 h6],.one (lC (.im h7) 1 h8)] []) K:OR)
abbrev Wg h0 h1 h2 h3 h4 h5 h6 h7 h8 h9 dj gO iE sq sr EL EM EN zj Pw K:=(aH fI (Cl 151 [.agg [sC h0,lC (.im h1) 3 h2,lC (.im h3) 6 h4,lC (.im h5) 10 h6],.agg [iC h7,sC h8,sC h9,sC dj,sC gO,iC iE,lC (.im sq) 1 sr,lC (.im EL) 3 EM,lC (.im EN) 3 zj,iC Pw]] []) K:OR)
abbrev Oi h0 h1 K:=(aH bj (Cl 94 [.agg [iC h0,sC h1]] []) K:OR)
abbrev WL h0 h1 h2 h3 h4 h5 h6 h7 h8 h9 dj gO iE K:=(aH bj (Cl 96 [.agg [iC h0,sC h1,sC h2,sC h3,sC h4,iC h5,lC (.im h6) 1 h7,lC (.im h8) 3 h9,lC (.im dj) 3 gO,iC iE]] []) K:OR)
abbrev WM h0 h1 h2 K:=(aH df (Cl 99 [.one (lC (.im h0) 6 h1),.one (iC h2)] []) K:OR)
abbrev Oj h0 h1 h2 h3 h4 h5 h6 h7 h8 h9 dj gO iE K:=(aH df (Cl 98 [.agg [iC h0,sC h1,sC h2,sC h3,sC h4,iC h5,lC (.im h6) 1 h7,lC (.im h8) 3 h9,lC (.im dj) 3 gO,iC iE]] []) K:OR)
abbrev Bh h0 h1 h2 h3 h4 h5 h6 h7 h8 h9 dj gO iE K:=(aH df (Cl 97 [.agg [iC h0,sC h1,sC h2,sC h3,sC h4,iC h5,lC (.im h6) 1 h7,lC (.im h8) 3 h9,lC (.im dj) 3 gO,iC iE]] []) K:OR)
abbrev Ik h0 h1 h2 h3 h4 h5 h6 h7 h8 h9 dj gO iE sq sr EL EM EN zj Pw h20 h21 h22 h23 cX h25 h26 h27 K:=(aH iK (Cl 100 [.agg [lC (.im h0) 3 h1,lC (.im h2) 2 h3,lC (.im h4) 4 h5],.agg [sC h6,lC (.im h7) 3 h8,lC (.im h9) 6 dj,lC (.im gO) 10 iE],.agg [iC sq,sC sr,sC EL,sC EM,sC EN,iC zj,lC (.im Pw) 1 h20,lC (.im h21) 3 h22,lC (.im h23) 3 cX,iC h25],.one (lC (.im h26) 1 h27)] []) K:OR)
abbrev yP h0 h1 h2 h3 h4 h5 h6 h7 h8 h9 dj gO iE K:=(aH df (Cl 101 [.agg [iC h0,sC h1,sC h2,sC h3,sC h4,iC h5,lC (.im h6) 1 h7,lC (.im h8) 3 h9,lC (.im dj) 3 gO,iC iE]] []) K:OR)
abbrev N8 h0 K:=(aH acM (Cl 184 [pE] [bx ao h0]) K:OR)
abbrev c152 h0 h1 h2 K:=(aH iK (Cl 152 [.one (lC (.im h0) 1 h1),.one (sC h2)] []) K:OR)
abbrev afm h0 h1 K:=(aH bj (Cl 165 [.agg [iC h0,sC h1]] []) K:OR)
abbrev c68 h0 K:=(aH iK (Cl 68 [.one (iC h0)] []) K:OR)
abbrev WI h0 h1 h2 h3 h4 h5 K:=(aH bj (Cl 69 [.agg [iC h0,sC h1,iC h2,sC h3,iC h4,iC h5]] []) K:OR)
abbrev c159 h0 h1 K:=(aH fI (Cl 159 [.one (iC h0),.one (iC h1)] []) K:OR)
abbrev c160 h0 K:=(aH fI (Cl 160 [.one (bC h0)] []) K:OR)
abbrev Wj h0 K:=(aH fI (Cl 161 [.one (sC h0)] []) K:OR)
abbrev Wk h0 h1 h2 h3 h4 K:=(aH yj (Cl 188 [pE,.one (sC h0),.one (iC h1),.one (lC (.im h2) 1 h3)] [bx ao h4]) K:OR)
abbrev c54 h0 h1 K:=(aH bj (Cl 54 [.agg [iC h0,sC h1]] []) K:OR)
abbrev Wq h0 h1 h2 h3 K:=(aH bj (Cl 192 [.one (lC (.im h0) 1 h1),.one (lC (.im h2) 1 h3)] []) K:OR)
abbrev Wo h0 h1 h2 h3 h4 h5 h6 K:=(aH bj (Cl 191 [.agg [sC h0,lC (.im h1) 1 h2,lC (.im h3) 3 h4],.one (sC h5),.one (iC h6)] []) K:OR)
abbrev N9 h0 h1 h2 h3 h4 h5 h6 h7 K:=(aH df (Cl 189 [.agg [sC h0,lC (.im h1) 1 h2,lC (.im h3) 3 h4],.one (sC h5),.one (lC (.im h6) 1 h7)] []) K:OR)
abbrev N' h0 h1 h2 h3 h4 h5 h6 h7 K:=(aH df (Cl 190 [.agg [sC h0,lC (.im h1) 1 h2,lC (.im h3) 3 h4],.one (sC h5),.one (lC (.im h6) 1 h7)] []) K:OR)
abbrev Im h0 h1 h2 h3 K:=(aH yl (Cl 195 [pE,.one (lC (.im h0) 1 h1),.one (sC h2)] [bx bw h3]) K:OR)
abbrev c193 h0 h1 h2 K:=(aH Du (Cl 193 [pE,.one (lC (.im h0) 1 h1)] [bx bw h2]) K:OR)
abbrev c194 h0 h1 h2 K:=(aH Ay (Cl 194 [pE,.one (lC (.im h0) 1 h1)] [bx bw h2]) K:OR)
abbrev Il h0 K:=(aH fI (Cl 114 [.one (iC h0)] []) K:OR)
abbrev c196 h0 h1 K:=(aH pO (Cl 196 [pE] [bx aR h0,bx ao h1]) K:OR)
abbrev Wu h0 h1 h2 h3 h4 K:=(aH lB (Cl 197 [pE,.one (sC h0),.agg [iC h1,sC h2]] [bx aR h3,bx ao h4]) K:OR)
abbrev c198 h0 h1 h2 K:=(aH acN (Cl 198 [pE,.one (sC h0)] [bx aR h1,bx ao h2]) K:OR)
abbrev Wv h0 h1 h2 K:=(aH pO (Cl 199 [pE,.one (iC h0)] [bx aR h1,bx ao h2]) K:OR)
abbrev c154 h0 h1 h2 h3 h4 h5 h6 h7 h8 h9 dj gO iE K:=(aH bj (Cl 154 [.agg [iC h0,sC h1,sC h2,sC h3,sC h4,iC h5,lC (.im h6) 1 h7,lC (.im h8) 3 h9,lC (.im dj) 3 gO,iC iE]] []) K:OR)
abbrev Wh h0 h1 h2 h3 h4 h5 h6 h7 h8 h9 dj gO iE K:=(aH G8 (Cl 153 [.agg [iC h0,sC h1,sC h2,sC h3,sC h4,iC h5,lC (.im h6) 1 h7,lC (.im h8) 3 h9,lC (.im dj) 3 gO,iC iE]] []) K:OR)
abbrev N6 h0 K:=(aH bj (Cl 132 [.one (iC h0)] []) K:OR)
abbrev c157 h0 h1 h2 h3 h4 h5 h6 h7 K:=(aH bj (Cl 157 [.agg [lC (.im h0) 3 h1,lC (.im h2) 2 h3,lC (.im h4) 4 h5],.one (sC h6),.one (iC h7)] []) K:OR)
abbrev Wi h0 h1 h2 h3 h4 h5 h6 h7 h8 h9 dj gO iE sq sr EL EM EN zj K:=(aH bj (Cl 158 [.agg [lC (.im h0) 3 h1,lC (.im h2) 2 h3,lC (.im h4) 4 h5],.agg [iC h6,sC h7,sC h8,sC h9,sC dj,iC gO,lC (.im iE) 1 sq,lC (.im sr) 3 EL,lC (.im EM) 3 EN,iC zj]] []) K:OR)
abbrev c156 h0 h1 h2 K:=(aH df (Cl 156 [.one (lC (.im h0) 6 h1),.one (iC h2)] []) K:OR)
abbrev c206 h0 K:=(aH fI (Cl 206 [.one (bC h0)] []) K:OR)
abbrev Io h0 h1 h2 h3 h4 K:=(aH bj (Cl 223 [.agg [sC h0,sC h1,lC (.im h2) 4 h3],.one (sC h4)] []) K:OR)
abbrev c218 h0 h1 h2 K:=(aH df (Cl 218 [.one (lC (.im h0) 1 h1),.one (sC h2)] []) K:OR)
abbrev Oa h0 h1 h2 K:=(aH iK (Cl 224 [.one (lC (.im h0) 4 h1),.one (sC h2)] []) K:OR)
abbrev Ww h0 h1 K:=(aH acO (Cl 204 [.one (lC (.im h0) 1 h1)] []) K:OR)
abbrev Wx h0 h1 K:=(aH df (Cl 205 [.one (lC (.im h0) 1 h1)] []) K:OR)
abbrev c236 h0 h1 h2 K:=(aH df (Cl 236 [.one (lC (.im h0) 1 h1),.one (sC h2)] []) K:OR)
def FY m0 a0 a1 a2:=ST.hd 3 0 Cl n [] [m0] ([sE 4 (sC a0),sE 5 (iC a1),sE 6 (iC a2)])
def Cz m0 m1 a0 a1 a2 a3:=ST.hd 3 1 Cl n [] [m0,m1] ([sE 4 (sC a0),sE 5 (iC a1),sE 7 (iC a2),sE 8 (iC a3)])
def Ka m0 m2 a0 a1 a2 a3 a4:=ST.hd 3 2 Cl n [] [m0,m2] ([sE 4 (sC a0),sE 5 (iC a1),sE 6 (iC a2),sE 7 (iC a3),sE 8 (iC a4)])
def Kb m0 m3 a0 a1 a2 a3 a4:=ST.hd 3 3 Cl n [] [m0,m3] ([sE 4 (sC a0),sE 5 (iC a1),sE 6 (iC a2),sE 7 (iC a3),sE 8 (iC a4)])
def CA m0 m4 a0 a1 a2 a3 a4:=ST.hd 3 4 Cl n [] [m0,m4] ([sE 4 (sC a0),sE 5 (iC a1),sE 6 (iC a2),sE 7 (iC a3),sE 8 (iC a4)])
def Kc m0 m5 a0 a1 a2 a3:=ST.hd 3 5 Cl n [] [m0,m5] ([sE 4 (sC a0),sE 5 (iC a1),sE 6 (iC a2),sE 7 (iC a3)])
def CB m0 m6 a0 a1 a2 a3:=ST.hd 3 6 Cl n [] [m0,m6] ([sE 4 (sC a0),sE 5 (iC a1),sE 6 (iC a2),sE 7 (iC a3)])
theorem Z4 {Cl n m0 a0 a1 a2}:FY Cl n (m0+1) a0 a1 a2=bif decide (a2 < ae a0.length) then Kc Cl n m0 n a0 a1 a2 a2 else bif a1==0 then some (.one (bC (decide (ae a0.length > 0))),[]) else rF:=by kernel_rfl
theorem akM {Cl n m0 m1 a0 a1 a2 a3}:Cz Cl n m0 (m1+1) a0 a1 a2 a3=bif a3 != ak (2 * a1) then rF else aD (bY (ak (a2 - 1))) fun LI=>aD (a0[LI]?) fun Sd=>bif ae Sd.toNat==123 then FY Cl n m0 a0 (ak (a1+1)) (ak (a2+1)) else FY Cl n m0 a0 a1 (ak (a2+1)):=by kernel_rfl
theorem akN {Cl n m0 m2 a0 a1 a2 a3 a4}:Ka Cl n m0 (m2+1) a0 a1 a2 a3 a4=aD (bY (ak (a2+a4))) fun o8=>aD (a0[o8]?) fun o9=>bif ae o9.toNat==125 then Cz Cl n m0 n a0 (ak (a1 - 1)) a3 a4 else Cz Cl n m0 n a0 a1 a3 a4:=by kernel_rfl
theorem akO {Cl n m0 m3 a0 a1 a2 a3 a4}:Kb Cl n m0 (m3+1) a0 a1 a2 a3 a4=bif decide (ak (a2+a4) < a3) then aD (bY (ak (a2+a4))) fun o6=>aD (a0[o6]?) fun o7=>bif ae o7.toNat==32 then Kb Cl n m0 m3 a0 a1 a2 a3 (ak (a4+1)) else CA Cl n m0 n a0 a1 a2 a3 a4 else CA Cl n m0 n a0 a1 a2 a3 a4:=by kernel_rfl
theorem akP {Cl n m0 m4 a0 a1 a2 a3 a4}:CA Cl n m0 (m4+1) a0 a1 a2 a3 a4=bif a3==ak (a2+a4) then rF else bif a3==ae a0.length then rF else Ka Cl n m0 n a0 a1 a2 a3 a4:=by kernel_rfl
theorem akQ {Cl n m0 m5 a0 a1 a2 a3}:Kc Cl n m0 (m5+1) a0 a1 a2 a3=bif decide (a3 < ae a0.length) then aD (bY a3) fun o4=>aD (a0[o4]?) fun o5=>bif ae o5.toNat != 10 then Kc Cl n m0 m5 a0 a1 a2 (ak (a3+1)) else CB Cl n m0 n a0 a1 a2 a3 else CB Cl n m0 n a0 a1 a2 a3:=by kernel_rfl
theorem akR {Cl n m0 m6 a0 a1 a2 a3}:CB Cl n m0 (m6+1) a0 a1 a2 a3=Kb Cl n m0 n a0 a1 a2 a3 0:=by kernel_rfl
theorem agh {m x0 x1}:Ev (c9 (T m) fun v0=>bif !v0.1 then rF else V8 (T m) x0 x1 fun v1=>N4 (T m) v1.1.1.1 v1.1.1.2 v1.1.2.1.1 v1.1.2.1.2 v1.1.2.2.1.1 v1.1.2.2.1.2 fun v2=>c12 (T m) v1.1.1.1 v1.1.1.2 v1.1.2.1.1 v1.1.2.1.2 v1.1.2.2.1.1 v1.1.2.2.1.2 fun v3=>bif v3.1.1 != 0 then some (.one (bC (v2.1==[])),[]) else FY (T m) m m v2.1 0 0) (T (m+1) 3 [.one (lC (.im x0) 1 x1)] []):=aV
theorem agi {m}:Ev (wW (T m) false [[.int .i64 0,.str [120],.int .i64 0,.str [],.int .i64 (-1),.int .i64 (-1)],[.int .i64 1,.str [],.int .i64 (-1),.str [],.int .i64 (-1),.int .i64 (-1)],[.int .i64 6,.str [],.int .i64 0,.str [],.int .i64 0,.int .i64 1]] 2 fun v0=>bif v0.1==[40,120,32,43,32,45,49,41] then N4 (T m) true [] true [] false [[.str [109,97,105,110],.sl (.im true) 3 [],.sl (.im true) 6 [],.sl (.im false) 10 [[.int .i64 0,.str [],.str [],.str [],.str [],.int .i64 (-1),.sl (.im true) 1 [],.sl (.im true) 3 [],.sl (.im true) 3 [],.int .i64 (-1)]]]] fun v1=>bif v1.1==[112,114,111,99,32,109,97,105,110,40,41,32,123,10,32,32,115,116,111,112,10,125,10] then Be (T m) 5 [112,46,97] fun v2=>some (.one (bC (v2.1==[99,104,97,110,32,112,46,97])),[]) else rF else rF) (T (m+1) 9 [] []):=aV
def FZ m0 a0 a1 a2 a3:=ST.hd 10 0 Cl n [] [m0] (bZ (.l 2) 1 cZ a0++[sE 2 (.ptr (.l 2) 1 0)]++bZ (.l 11) 1 ao a1++[sE 3 (.ptr (.l 11) 1 0)]++bZ (.l 4) 1 cZ a2++[sE 4 (.ptr (.l 4) 1 0),sE 5 (iC a3)])
def CD m0 a0 a1 a2 a3:=ST.hd 10 0 Cl n [] [m0] (bZ (.l 2) 1 cZ a0++[sE 2 (.ptr (.l 2) 1 0)]++bZ (.l 11) 1 ao a1++[sE 3 (.ptr (.l 11) 1 0)]++bZ (.l 4) 1 sh7 a2++[sE 4 (.ptr (.l 4) 1 0),sE 5 (iC a3)])
def F0 m0 m1 a0 a1 a2 a3 a4 a5 a6:=ST.hd 10 1 Cl n [] [m0,m1] (bZ (.l 2) 1 cZ a0++[sE 2 (.ptr (.l 2) 1 0)]++bZ (.l 11) 1 ao a1++[sE 3 (.ptr (.l 11) 1 0)]++bZ (.l 4) 1 cZ a2++[sE 4 (.ptr (.l 4) 1 0),sE 5 (iC a3),sE 6 (lC (.im a4) 2 a5),sE 9 (iC a6)])
def F3 m0 m1 a0 a1 a2 a3 a4 a5 a6:=ST.hd 10 1 Cl n [] [m0,m1] (bZ (.l 2) 1 cZ a0++[sE 2 (.ptr (.l 2) 1 0)]++bZ (.l 11) 1 ao a1++[sE 3 (.ptr (.l 11) 1 0)]++bZ (.l 4) 1 sh7 a2++[sE 4 (.ptr (.l 4) 1 0),sE 5 (iC a3),sE 6 (lC (.im a4) 2 a5),sE 9 (iC a6)])
theorem Z7 {Cl n m0 a0 a1 a2 a3}:FZ Cl n (m0+1) a0 a1 a2 a3=bif decide (a3 < ae a2.1.2.length) then iR eb 0 3 a2.1.2 a3 fun v4=>Bf Cl v4.1 v4.2.1.1 v4.2.1.2 v4.2.2.1.1 v4.2.2.1.2 fun v5=>F0 Cl n m0 n a0 a1 a2 a3 v5.1.1.1 v5.1.1.2 0 else Od Cl a2.1.1 a2.1.2 a1 fun v6=>gd (a2.2.2.1.1&&true&&true) (some (.agg [lC (.im a2.1.1) 3 a2.1.2,lC (.im a2.2.1.1) 2 a2.2.1.2,lC (.im false) 4 [[.str v6.1.1,.sl (.im v6.1.2.1.1) 3 v6.1.2.1.2,.sl (.im v6.1.2.2.1.1) 6 v6.1.2.2.1.2,.sl (.im v6.1.2.2.2.1.1) 10 v6.1.2.2.2.1.2]]],[])):=by kernel_rfl
theorem Z8 {Cl n m0 a0 a1 a2 a3}:CD Cl n (m0+1) a0 a1 a2 a3=bif decide (a3 < ae a2.1.2.length) then iR eb 0 3 a2.1.2 a3 fun aX=>Bf Cl aX.1 aX.2.1.1 aX.2.1.2 aX.2.2.1.1 aX.2.2.1.2 fun v24=>F3 Cl n m0 n a0 a1 a2 a3 v24.1.1.1 v24.1.1.2 0 else Od Cl a2.1.1 a2.1.2 a1 fun ej=>gd (rO (List.length a2.2.2.1) 88) (gd ((a2.2.2.1++[[D.str [],D.sl (.im true) 3 [],D.sl (.im true) 6 [],D.sl (.im true) 10 []]].set 0 [D.str ej.1.1,D.sl (.im ej.1.2.1.1) 3 ej.1.2.1.2,D.sl (.im ej.1.2.2.1.1) 6 ej.1.2.2.1.2,D.sl (.im ej.1.2.2.2.1.1) 10 ej.1.2.2.2.1.2]).length==(a2.2.2.1++[[D.str [],D.sl (.im true) 3 [],D.sl (.im true) 6 [],D.sl (.im true) 10 []]].set 0 [D.str ej.1.1,D.sl (.im ej.1.2.1.1) 3 ej.1.2.1.2,D.sl (.im ej.1.2.2.1.1) 6 ej.1.2.2.1.2,D.sl (.im ej.1.2.2.2.1.1) 10 ej.1.2.2.2.1.2]).length && !(a2.2.2.1++[[D.str [],D.sl (.im true) 3 [],D.sl (.im true) 6 [],D.sl (.im true) 10 []]].set 0 [D.str ej.1.1,D.sl (.im ej.1.2.1.1) 3 ej.1.2.1.2,D.sl (.im ej.1.2.2.1.1) 6 ej.1.2.2.1.2,D.sl (.im ej.1.2.2.2.1.1) 10 ej.1.2.2.2.1.2]).isEmpty) (gd (rL ((a2.2.2.1++[[D.str [],D.sl (.im true) 3 [],D.sl (.im true) 6 [],D.sl (.im true) 10 []]].set 0 [D.str ej.1.1,D.sl (.im ej.1.2.1.1) 3 ej.1.2.1.2,D.sl (.im ej.1.2.2.1.1) 6 ej.1.2.2.1.2,D.sl (.im ej.1.2.2.2.1.1) 10 ej.1.2.2.2.1.2]).length)) (some (.agg [lC (.im a2.1.1) 3 a2.1.2,lC (.im a2.2.1.1) 2 a2.2.1.2,lC (.im false) 4 (aW (whole (a2.2.2.1++[[D.str [],D.sl (.im true) 3 [],D.sl (.im true) 6 [],D.sl (.im true) 10 []]].set 0 [D.str ej.1.1,D.sl (.im ej.1.2.1.1) 3 ej.1.2.1.2,D.sl (.im ej.1.2.2.1.1) 6 ej.1.2.2.1.2,D.sl (.im ej.1.2.2.2.1.1) 10 ej.1.2.2.2.1.2])))],[])))):=by kernel_rfl
theorem akS {Cl n m0 m1 a0 a1 a2 a3 a4 a5 a6}:F0 Cl n m0 (m1+1) a0 a1 a2 a3 a4 a5 a6=bif decide (a6 < ae a5.length) then iR eb 0 3 a2.1.2 a3 fun v9=>iR [.str] 0 1 a5 a6 fun v12=>Oc Cl a2.1.1 a2.1.2 v9.1 v9.2.1.1 v9.2.1.2 v9.2.2.1.1 v9.2.2.1.2 a4 a5 a6 v12.1 a1 fun aP=>gd (a2.2.2.1.1&&true&&true) (F3 Cl n m0 m1 a0 aP.2.1 (a2.1,a2.2.1,[[.str aP.1.1,.sl (.im aP.1.2.1.1) 3 aP.1.2.1.2,.sl (.im aP.1.2.2.1.1) 6 aP.1.2.2.1.2,.sl (.im aP.1.2.2.2.1.1) 10 aP.1.2.2.2.1.2]],()) a3 a4 a5 (ak (a6+1))) else FZ Cl n m0 a0 a1 a2 (ak (a3+1)):=by kernel_rfl
theorem akT {Cl n m0 m1 a0 a1 a2 a3 a4 a5 a6}:F3 Cl n m0 (m1+1) a0 a1 a2 a3 a4 a5 a6=bif decide (a6 < ae a5.length) then iR eb 0 3 a2.1.2 a3 fun cB=>iR [.str] 0 1 a5 a6 fun dN=>Oc Cl a2.1.1 a2.1.2 cB.1 cB.2.1.1 cB.2.1.2 cB.2.2.1.1 cB.2.2.1.2 a4 a5 a6 dN.1 a1 fun v20=>gd (rO (List.length a2.2.2.1) 88) (F3 Cl n m0 m1 a0 v20.2.1 (a2.1,a2.2.1,a2.2.2.1++[[D.str [],D.sl (.im true) 3 [],D.sl (.im true) 6 [],D.sl (.im true) 10 []]].set 0 [D.str v20.1.1,D.sl (.im v20.1.2.1.1) 3 v20.1.2.1.2,D.sl (.im v20.1.2.2.1.1) 6 v20.1.2.2.1.2,D.sl (.im v20.1.2.2.2.1.1) 10 v20.1.2.2.2.1.2],()) a3 a4 a5 (ak (a6+1))) else CD Cl n m0 a0 a1 a2 (ak (a3+1)):=by kernel_rfl
theorem agm {m x0 x1}:Ev (c28 (T m) x0 x1 fun v0=>c31 (T m) v0.2.1 fun v1=>FZ (T m) m m ((true,[]),(true,[]),(true,[]),()) v1.2.1 (v1.1,(true,[]),(true,[]),()) 0) (T (m+1) 10 [.one (lC (.im x0) 1 x1)] []):=aV
def J3 m0 a0 a1 a2 a3 a4:=ST.hd 11 0 Cl n [] [m0] (bZ (.l 15) 1 bl a0++[sE 3 (.ptr (.l 15) 1 0),sE 41 (lC (.im a1) 4 a2),sE 42 (iC a3),sE 43 (iC a4)])
def FW m1 a0 a1 a2 a3 a4 a5:=ST.hd 11 1 Cl n [] [m1] (bZ (.l 1) 1 cZ a0++[sE 1 (.ptr (.l 1) 1 0)]++bZ (.l 15) 1 bl a1++[sE 3 (.ptr (.l 15) 1 0),sE 29 (lC (.im a2) 2 a3),sE 30 (iC a4),sE 31 (iC a5)])
def FX m2 a0 a1 a2 a3 a4 a5:=ST.hd 11 2 Cl n [] [m2] (bZ (.l 1) 1 cZ a0++[sE 1 (.ptr (.l 1) 1 0)]++bZ (.l 15) 1 bl a1++[sE 3 (.ptr (.l 15) 1 0),sE 17 (lC (.im a2) 3 a3),sE 18 (iC a4),sE 19 (iC a5)])
theorem Ri {Cl n m0 a0 a1 a2 a3 a4}:J3 Cl n (m0+1) a0 a1 a2 a3 a4=bif decide (a4 < a3) then iR fw 0 4 a2 a4 fun aP=>Wy Cl aP.1 aP.2.1.1 aP.2.1.2 aP.2.2.1.1 aP.2.2.1.2 aP.2.2.2.1.1 aP.2.2.2.1.2 a0 fun bR=>J3 Cl n m0 bR.2.1 a1 a2 a3 (ak (a4+1)) else c37 Cl a0 fun cq=>rS cq.1:=by kernel_rfl
theorem Z1 {Cl n m1 a0 a1 a2 a3 a4 a5}:FW Cl n (m1+1) a0 a1 a2 a3 a4 a5=bif decide (a5 < a4) then iR oU 0 2 a3 a5 fun v8=>c21 Cl v8.1 v8.2.1.1 v8.2.1.2 fun v9=>dv Cl v9.1 a1 fun v10=>bif v10.1.2.1 then FW Cl n m1 a0 v10.2.1 a2 a3 a4 (ak (a5+1)) else FW Cl n m1 a0 v10.2.1 a2 a3 a4 (ak (a5+1)) else J3 Cl n n a1 a0.2.2.1.1 a0.2.2.1.2 (ae a0.2.2.1.2.length) 0:=by kernel_rfl
theorem Z2 {Cl n m2 a0 a1 a2 a3 a4 a5}:FX Cl n (m2+1) a0 a1 a2 a3 a4 a5=bif decide (a5 < a4) then iR eb 0 3 a3 a5 fun v3=>Wm Cl v3.1 v3.2.1.1 v3.2.1.2 v3.2.2.1.1 v3.2.2.1.2 fun v4=>dv Cl v4.1 a1 fun v5=>bif v5.1.2.1 then FX Cl n m2 a0 v5.2.1 a2 a3 a4 (ak (a5+1)) else FX Cl n m2 a0 v5.2.1 a2 a3 a4 (ak (a5+1)) else FW Cl n n a0 a1 a0.2.1.1 a0.2.1.2 (ae a0.2.1.2.length) 0:=by kernel_rfl
theorem Xr {m x0 x1 x2 x3 x4 x5}:Ev (c12 (T m) x0 x1 x2 x3 x4 x5 fun v0=>bif v0.1.1 != 0 then rS [] else FX (T m) m m ((x0,x1),(x2,x3),(x4,x5),()) ((),(.im true,[]),()) x0 x1 (ae x1.length) 0) (T (m+1) 11 [.agg [lC (.im x0) 3 x1,lC (.im x2) 2 x3,lC (.im x4) 4 x5]] []):=aV
def KQ m0 a0 a1 a2 a3:=ST.hd 12 0 Cl n [] [m0] (bZ (.l 1) 1 cZ a0++bZ (.l 2) 1 eO a1++[sE 2 (.ptr (.l 2) 1 0)]++bZ (.l 12) 1 jN a2++bZ (.l 16) 1 kY a3++[sE 18 (.fn 1000000000000 [] [.fn 40 [] [.ptr (.l 1) 1 0],.fn 39 [] [.ptr (.l 1) 1 0,.ptr (.l 12) 1 0],.fn 44 [] [.ptr (.l 1) 1 0],.fn 39 [] [.ptr (.l 1) 1 0,.ptr (.l 16) 1 0]]),sE 19 (iC 4),sE 20 (iC 0)])
def Ry m0 a0 a1 a2 a3:=ST.hd 12 0 Cl n [] [m0] (bZ (.l 1) 1 cZ a0++bZ (.l 2) 1 eO a1++[sE 2 (.ptr (.l 2) 1 0)]++bZ (.l 12) 1 jN a2++bZ (.l 16) 1 kY a3++[sE 18 (.fn 1000000000000 [] [.fn 40 [] [.ptr (.l 1) 1 0],.fn 39 [] [.ptr (.l 1) 1 0,.ptr (.l 12) 1 0],.fn 44 [] [.ptr (.l 1) 1 0],.fn 39 [] [.ptr (.l 1) 1 0,.ptr (.l 16) 1 0]]),sE 19 (iC 4),sE 20 (iC 1)])
def aao m0 a0 a1 a2 a3:=ST.hd 12 0 Cl n [] [m0] (bZ (.l 1) 1 cZ a0++bZ (.l 2) 1 eO a1++[sE 2 (.ptr (.l 2) 1 0)]++bZ (.l 12) 1 jN a2++bZ (.l 16) 1 kY a3++[sE 18 (.fn 1000000000000 [] [.fn 40 [] [.ptr (.l 1) 1 0],.fn 39 [] [.ptr (.l 1) 1 0,.ptr (.l 12) 1 0],.fn 44 [] [.ptr (.l 1) 1 0],.fn 39 [] [.ptr (.l 1) 1 0,.ptr (.l 16) 1 0]]),sE 19 (iC 4),sE 20 (iC 2)])
def Rz m0 a0 a1 a2 a3:=ST.hd 12 0 Cl n [] [m0] (bZ (.l 1) 1 cZ a0++bZ (.l 2) 1 eO a1++[sE 2 (.ptr (.l 2) 1 0)]++bZ (.l 12) 1 jN a2++bZ (.l 16) 1 kY a3++[sE 18 (.fn 1000000000000 [] [.fn 40 [] [.ptr (.l 1) 1 0],.fn 39 [] [.ptr (.l 1) 1 0,.ptr (.l 12) 1 0],.fn 44 [] [.ptr (.l 1) 1 0],.fn 39 [] [.ptr (.l 1) 1 0,.ptr (.l 16) 1 0]]),sE 19 (iC 4),sE 20 (iC 3)])
def aap m0 a0 a1 a2 a3:=ST.hd 12 0 Cl n [] [m0] (bZ (.l 1) 1 cZ a0++bZ (.l 2) 1 eO a1++[sE 2 (.ptr (.l 2) 1 0)]++bZ (.l 12) 1 jN a2++bZ (.l 16) 1 kY a3++[sE 18 (.fn 1000000000000 [] [.fn 40 [] [.ptr (.l 1) 1 0],.fn 39 [] [.ptr (.l 1) 1 0,.ptr (.l 12) 1 0],.fn 44 [] [.ptr (.l 1) 1 0],.fn 39 [] [.ptr (.l 1) 1 0,.ptr (.l 16) 1 0]]),sE 19 (iC 4),sE 20 (iC 4)])
theorem amd {Cl n m0 a0 a1 a2 a3}:KQ Cl n (m0+1) a0 a1 a2 a3=c40 Cl a0 fun v2=>bif v2.1.1 != 0 then some (.agg [iC v2.1.1,iC v2.1.2.1,iC v2.1.2.2.1],[]) else Ry Cl n m0 v2.2.1 a1 ((),()) ((),()):=by kernel_rfl
theorem ame {Cl n m0 a0 a1 a2 a3}:Ry Cl n (m0+1) a0 a1 a2 a3=c39 Cl a0 ((),()) fun v3=>bif v3.1.1 != 0 then some (.agg [iC v3.1.1,iC v3.1.2.1,iC v3.1.2.2.1],[]) else aao Cl n m0 v3.2.1 a1 ((),()) ((),()):=by kernel_rfl
theorem amf {Cl n m0 a0 a1 a2 a3}:aao Cl n (m0+1) a0 a1 a2 a3=c44 Cl a0 fun v4=>bif v4.1.1 != 0 then some (.agg [iC v4.1.1,iC v4.1.2.1,iC v4.1.2.2.1],[]) else Rz Cl n m0 v4.2.1 a1 ((),()) ((),()):=by kernel_rfl
theorem amg {Cl n m0 a0 a1 a2 a3}:Rz Cl n (m0+1) a0 a1 a2 a3=afo Cl a0 ((),()) fun v5=>bif v5.1.1 != 0 then some (.agg [iC v5.1.1,iC v5.1.2.1,iC v5.1.2.2.1],[]) else aap Cl n m0 v5.2.1 a1 ((),()) ((),()):=by kernel_rfl
theorem amh {Cl n m0 a0 a1 a2 a3}:aap Cl n (m0+1) a0 a1 a2 a3=some (.agg [iC 0,iC 0,iC 0],[]):=by kernel_rfl
theorem ag7 {m x0 x1 x2 x3 x4 x5}:Ev (c38 (T m) ((x0,x1),(x2,x3),(x4,x5),()) fun v0=>afn (T m) v0.2.1 fun v1=>KQ (T m) m m v1.2.1 (0,0,0,()) ((),()) ((),())) (T (m+1) 12 [.agg [lC (.im x0) 3 x1,lC (.im x2) 2 x3,lC (.im x4) 4 x5]] []):=aV
theorem agk {m x0 x1}:Ev (gd (fT 8 x1 false&&decide (x1.length * 8≤140737488355328)) (bif x1.isEmpty then some (pE,[bx ao ((.im true,x1),0,())]) else some (pE,[bx ao ((.own,x1),0,())]))) (T (m+1) 28 [.one (lC (.im x0) 1 x1)] []):=aV
def rh m0 a0 a1 a2 a3 a4:=ST.hd 19 0 Cl n [] [m0] (bZ (.l 10) 1 bl a0++[sE 3 (.ptr (.l 10) 1 0),sE 23 (lC (.im a1) 3 a2),sE 24 (iC a3),sE 25 (iC a4)])
theorem akA {Cl n m0 a0 a1 a2 a3 a4}:rh Cl n (m0+1) a0 a1 a2 a3 a4=bif decide (a4 < a3) then iR kZ 0 3 a2 a4 fun v5=>Em Cl a4 fun v6=>aN (2+List.length v6.1) (aN (([32,32]++v6.1).length+2) (dv Cl ([32,32]++v6.1++[58,32]) a0 fun v7=>bif v7.1.2.1 then bif ae v5.2.2.1.2.length==0 then dv Cl [101,110,100,10] v7.2.1 fun v8=>bif v8.1.2.1 then rh Cl n m0 v8.2.1 a1 a2 a3 (ak (a4+1)) else rh Cl n m0 v8.2.1 a1 a2 a3 (ak (a4+1)) else aN (List.length v5.1+4) (aN ((v5.1++[32,45,62,32]).length+List.length v5.2.1) (yR Cl v5.2.2.1.1 v5.2.2.1.2 fun v9=>aN ((v5.1++[32,45,62,32]++v5.2.1).length+List.length v9.1) (aN ((v5.1++[32,45,62,32]++v5.2.1++v9.1).length+1) (dv Cl (v5.1++[32,45,62,32]++v5.2.1++v9.1++[10]) v7.2.1 fun v10=>bif v10.1.2.1 then rh Cl n m0 v10.2.1 a1 a2 a3 (ak (a4+1)) else rh Cl n m0 v10.2.1 a1 a2 a3 (ak (a4+1)))))) else bif ae v5.2.2.1.2.length==0 then dv Cl [101,110,100,10] v7.2.1 fun v11=>bif v11.1.2.1 then rh Cl n m0 v11.2.1 a1 a2 a3 (ak (a4+1)) else rh Cl n m0 v11.2.1 a1 a2 a3 (ak (a4+1)) else aN (List.length v5.1+4) (aN ((v5.1++[32,45,62,32]).length+List.length v5.2.1) (yR Cl v5.2.2.1.1 v5.2.2.1.2 fun v12=>aN ((v5.1++[32,45,62,32]++v5.2.1).length+List.length v12.1) (aN ((v5.1++[32,45,62,32]++v5.2.1++v12.1).length+1) (dv Cl (v5.1++[32,45,62,32]++v5.2.1++v12.1++[10]) v7.2.1 fun aP=>bif aP.1.2.1 then rh Cl n m0 aP.2.1 a1 a2 a3 (ak (a4+1)) else rh Cl n m0 aP.2.1 a1 a2 a3 (ak (a4+1)))))))) else dv Cl [125,10] a0 fun bR=>bif bR.1.2.1 then c37 Cl bR.2.1 fun cq=>rS cq.1 else c37 Cl bR.2.1 fun cB=>rS cB.1:=by kernel_rfl
theorem af7 {m x0 x1 x2 x3 x4}:Ev (WG (T m) x0 x1 x2 x3 x4 fun v0=>bif !v0.1 then rS [] else aN (9+x0.length) (aN (([112,114,111,116,111,99,111,108,32]++x0).length+7) (oo (T m) x1 x2 [44,32] fun v1=>aN (([112,114,111,116,111,99,111,108,32]++x0++[32,114,111,108,101,115,32]).length+List.length v1.1) (aN (([112,114,111,116,111,99,111,108,32]++x0++[32,114,111,108,101,115,32]++v1.1).length+3) (dv (T m) ([112,114,111,116,111,99,111,108,32]++x0++[32,114,111,108,101,115,32]++v1.1++[32,123,10]) ((),(.im true,[]),()) fun v2=>bif v2.1.2.1 then rh (T m) m m v2.2.1 x3 x4 (ae x4.length) 0 else rh (T m) m m v2.2.1 x3 x4 (ae x4.length) 0))))) (T (m+1) 19 [.agg [sC x0,lC (.im x1) 1 x2,lC (.im x3) 3 x4]] []):=aV
def mu m0 a0 a1 a2 a3 a4:=ST.hd 21 0 Cl n [] [m0] (bZ (.l 16) 1 bl a0++[sE 3 (.ptr (.l 16) 1 0),sE 24 (lC (.im a1) 3 a2),sE 25 (iC a3),sE 26 (iC a4)])
def Z0 m1 a0:=ST.hd 21 1 Cl n [] [m1] (bZ (.l 1) 1 oU a0++[sE 1 (.ptr (.l 1) 1 0)])
theorem aky {Cl n m0 a0 a1 a2 a3 a4}:mu Cl n (m0+1) a0 a1 a2 a3 a4=bif decide (a4 < a3) then iR jz 0 3 a2 a4 fun v5=>Em Cl a4 fun v6=>aN (2+List.length v6.1) (aN (([32,32]++v6.1).length+2) (dv Cl ([32,32]++v6.1++[58,32]) a0 fun v7=>bif v7.1.2.1 then bif v5.1==0 then dv Cl [101,110,100,10] v7.2.1 fun v8=>bif v8.1.2.1 then mu Cl n m0 v8.2.1 a1 a2 a3 (ak (a4+1)) else mu Cl n m0 v8.2.1 a1 a2 a3 (ak (a4+1)) else bif v5.1==1 then aN (3+List.length v5.2.1) (yR Cl v5.2.2.1.1 v5.2.2.1.2 fun v9=>aN (([116,111,32]++v5.2.1).length+List.length v9.1) (aN (([116,111,32]++v5.2.1++v9.1).length+1) (dv Cl ([116,111,32]++v5.2.1++v9.1++[10]) v7.2.1 fun v10=>bif v10.1.2.1 then mu Cl n m0 v10.2.1 a1 a2 a3 (ak (a4+1)) else mu Cl n m0 v10.2.1 a1 a2 a3 (ak (a4+1))))) else bif v5.1==2 then aN (5+List.length v5.2.1) (yR Cl v5.2.2.1.1 v5.2.2.1.2 fun v11=>aN (([102,114,111,109,32]++v5.2.1).length+List.length v11.1) (aN (([102,114,111,109,32]++v5.2.1++v11.1).length+1) (dv Cl ([102,114,111,109,32]++v5.2.1++v11.1++[10]) v7.2.1 fun v12=>bif v12.1.2.1 then mu Cl n m0 v12.2.1 a1 a2 a3 (ak (a4+1)) else mu Cl n m0 v12.2.1 a1 a2 a3 (ak (a4+1))))) else mu Cl n m0 v7.2.1 a1 a2 a3 (ak (a4+1)) else bif v5.1==0 then dv Cl [101,110,100,10] v7.2.1 fun aP=>bif aP.1.2.1 then mu Cl n m0 aP.2.1 a1 a2 a3 (ak (a4+1)) else mu Cl n m0 aP.2.1 a1 a2 a3 (ak (a4+1)) else bif v5.1==1 then aN (3+List.length v5.2.1) (yR Cl v5.2.2.1.1 v5.2.2.1.2 fun bR=>aN (([116,111,32]++v5.2.1).length+List.length bR.1) (aN (([116,111,32]++v5.2.1++bR.1).length+1) (dv Cl ([116,111,32]++v5.2.1++bR.1++[10]) v7.2.1 fun cq=>bif cq.1.2.1 then mu Cl n m0 cq.2.1 a1 a2 a3 (ak (a4+1)) else mu Cl n m0 cq.2.1 a1 a2 a3 (ak (a4+1))))) else bif v5.1==2 then aN (5+List.length v5.2.1) (yR Cl v5.2.2.1.1 v5.2.2.1.2 fun cB=>aN (([102,114,111,109,32]++v5.2.1).length+List.length cB.1) (aN (([102,114,111,109,32]++v5.2.1++cB.1).length+1) (dv Cl ([102,114,111,109,32]++v5.2.1++cB.1++[10]) v7.2.1 fun dS=>bif dS.1.2.1 then mu Cl n m0 dS.2.1 a1 a2 a3 (ak (a4+1)) else mu Cl n m0 dS.2.1 a1 a2 a3 (ak (a4+1))))) else mu Cl n m0 v7.2.1 a1 a2 a3 (ak (a4+1)))) else dv Cl [125,10] a0 fun eH=>bif eH.1.2.1 then c37 Cl eH.2.1 fun dN=>rS dN.1 else c37 Cl eH.2.1 fun v20=>rS v20.1:=by kernel_rfl
theorem akz {Cl n m1 a0}:Z0 Cl n (m1+1) a0=aN (6+List.length a0.1) (aN (([108,111,99,97,108,32]++a0.1).length+3) (dv Cl ([108,111,99,97,108,32]++a0.1++[32,123,10]) ((),(.im true,[]),()) fun v2=>bif v2.1.2.1 then mu Cl n n v2.2.1 a0.2.1.1 a0.2.1.2 (ae a0.2.1.2.length) 0 else mu Cl n n v2.2.1 a0.2.1.1 a0.2.1.2 (ae a0.2.1.2.length) 0)):=by kernel_rfl
theorem af6 {m x0 x1 x2}:Ev (c53 (T m) x0 x1 x2 fun v0=>bif !v0.1 then rS [] else fE (T m) x0 fun v1=>bif !v1.1 then rS [] else Z0 (T m) m m (x0,(x1,x2),())) (T (m+1) 21 [.agg [sC x0,lC (.im x1) 3 x2]] []):=aV
theorem Xs {m x0 x1 x2}:Ev (Ek (T m) x0 x1 x2 fun v0=>bif !v0.1 then rS [] else ki (T m) x0 x1 x2 ((),(.im true,[]),()) fun v1=>c37 (T m) v1.2.1 fun v2=>rS v2.1) (T (m+1) 15 [.one (lC (.im x0) 6 x1),.one (iC x2)] []):=aV
theorem agn {m x0}:Ev (c80 (T m) [112] true [] x0 fun v0=>ef (T m) 2 v0.2.1 fun v1=>bif v1.1==1 then WJ (T m) v0.1.1 v0.1.2.1.1 v0.1.2.1.2 v0.1.2.2.1.1 v0.1.2.2.1.2 fun v2=>c80 (T m) [113] v2.1.1 v2.1.2 v1.2.1 fun v3=>some (.one (lC (.im false) 3 [[.str v0.1.1,.sl (.im v0.1.2.1.1) 1 v0.1.2.1.2,.sl (.im v0.1.2.2.1.1) 3 v0.1.2.2.1.2],[.str v3.1.1,.sl (.im v3.1.2.1.1) 1 v3.1.2.1.2,.sl (.im v3.1.2.2.1.1) 3 v3.1.2.2.1.2]]),[bx ao v3.2.1]) else some (.one (lC (.im false) 3 [[.str v0.1.1,.sl (.im v0.1.2.1.1) 1 v0.1.2.1.2,.sl (.im v0.1.2.2.1.1) 3 v0.1.2.2.1.2]]),[bx ao v1.2.1])) (T (m+1) 31 [pE] [bx ao x0]):=aV
def Kr m0 a0 a1 a2 a3:=ST.hd 32 0 Cl n [] [m0] (bZ (.l 1) 1 eb a0++[sE 1 (.ptr (.l 1) 1 0),sE 5 (lC (.im a1) 2 a2),sE 6 (iC a3)])
def Ks m0 a0 a1 a2:=ST.hd 32 0 Cl n [] [m0] (bZ (.l 1) 1 eb a0++[sE 1 (.ptr (.l 1) 1 0),sE 5 (lC .own 2 a1),sE 6 (iC a2)])
theorem alv {Cl n m0 a0 a1 a2 a3}:Kr Cl n (m0+1) a0 a1 a2 a3=bif decide (a3 < ae a0.2.1.2.length) then iR [.str] 0 1 a0.2.1.2 a3 fun v3=>Oh Cl a0.1 a0.2.1.1 a0.2.1.2 a0.2.2.1.1 a0.2.2.1.2 v3.1 fun v4=>bif v4.1.2.1 != 0 then some (.aq [.one (lC (.im true) 2 []),.one (iC a3),.one (iC v4.1.2.1)],[]) else gd (a1&&true&&true) (Ks Cl n m0 a0 [[.str v4.1.1.1,.sl (.im v4.1.1.2.1.1) 3 v4.1.1.2.1.2]] (ak (a3+1))) else some (.aq [.one (lC (.im a1) 2 a2),.one (iC 0),.one (iC 0)],[]):=by kernel_rfl
theorem alw {Cl n m0 a0 a1 a2}:Ks Cl n (m0+1) a0 a1 a2=bif decide (a2 < ae a0.2.1.2.length) then iR [.str] 0 1 a0.2.1.2 a2 fun v7=>Oh Cl a0.1 a0.2.1.1 a0.2.1.2 a0.2.2.1.1 a0.2.2.1.2 v7.1 fun v8=>bif v8.1.2.1 != 0 then some (.aq [.one (lC (.im true) 2 []),.one (iC a2),.one (iC v8.1.2.1)],[]) else gd (rO a1.length 40) (Ks Cl n m0 a0 (a1++[[D.str [],D.sl (.im true) 3 []]].set 0 [D.str v8.1.1.1,D.sl (.im v8.1.1.2.1.1) 3 v8.1.1.2.1.2]) (ak (a2+1))) else gd (rL a1.length) (some (.aq [.one (lC (.im false) 2 (aW (whole a1))),.one (iC 0),.one (iC 0)],[])):=by kernel_rfl
theorem agS {m x0 x1 x2 x3 x4}:Ev (Ob (T m) x0 x1 x2 x3 x4 fun v0=>bif !v0.1 then some (.aq [.one (lC (.im true) 2 []),.one (iC 0),.one (iC 800)],[]) else Kr (T m) m m (x0,(x1,x2),(x3,x4),()) true [] 0) (T (m+1) 32 [.agg [sC x0,lC (.im x1) 1 x2,lC (.im x3) 3 x4]] []):=aV
def Kh x2 m0 a0 a1 a2 a3 a4 a5 a6:=ST.hd 34 0 Cl n [bx ao x2] [m0] ([(.s 0,⟨pE,0⟩),sE 1 (lC (.im a0) 3 a1)]++bZ (.e 0) 0 ao a2++bZ (.l 4) 1 fw a3++[sE 4 (.ptr (.l 4) 1 0)]++bZ (.l 15) 1 apw a4++[sE 5 (.ptr (.l 15) 1 0),sE 6 (iC a5),sE 7 (iC a6)])
def F4 x2 m0 a0 a1 a2 a3 a4 a5 a6:=ST.hd 34 0 Cl n [bx ao x2] [m0] ([(.s 0,⟨pE,0⟩),sE 1 (lC (.im a0) 3 a1)]++bZ (.e 0) 0 ao a2++bZ (.l 4) 1 fw a3++[sE 4 (.ptr (.l 4) 1 0)]++bZ (.l 15) 1 apy a4++[sE 5 (.ptr (.l 15) 1 0),sE 6 (iC a5),sE 7 (iC a6)])
def uh x2 m0 m1 a0 a1 a2 a3 a4 a5 a6 a7 a8 a9 aO:=ST.hd 34 1 Cl n [bx ao x2] [m0,m1] ([(.s 0,⟨pE,0⟩),sE 1 (lC (.im a0) 3 a1)]++bZ (.e 0) 0 ao a2++bZ (.l 4) 1 fw a3++[sE 4 (.ptr (.l 4) 1 0)]++bZ (.l 15) 1 apx a4++[sE 5 (.ptr (.l 15) 1 0),sE 6 (iC a5),sE 7 (iC a6)]++bZ (.l 8) 1 eb a7++[sE 8 (.ptr (.l 8) 1 0),sE 9 (sC a8),sE 10 (sC a9)]++bZ (.l 11) 1 eA aO++[sE 11 (.ptr (.l 11) 1 0)])
theorem ak4 {Cl n x2 m0 a0 a1 a2 a3 a4 a5 a6}:Kh Cl n x2 (m0+1) a0 a1 a2 a3 a4 a5 a6=bif decide (a6 < a5) then ef Cl (ae a1.length) a2 fun v1=>iR eb 0 3 a1 v1.1 fun v4=>ef Cl (ae v4.2.1.2.length) v1.2.1 fun v5=>iR [.str] 0 1 v4.2.1.2 v5.1 fun v8=>c85 Cl v4.1 v4.2.1.1 v4.2.1.2 v4.2.2.1.1 v4.2.2.1.2 v8.1 ((),a4.2.1,a4.2.2.1,(.im a4.2.2.2.1.1,a4.2.2.2.1.2),(.im a4.2.2.2.2.1.1,a4.2.2.2.2.1.2),(.im a4.2.2.2.2.2.1.1,a4.2.2.2.2.2.1.2),a4.2.2.2.2.2.2) v5.2.1 fun v9=>kj Cl 7 fun v10=>bif a6==ak (a5 - 1) then kj Cl 6 fun v11=>uh Cl n x2 m0 n a0 a1 v9.2.2.1 a3 v9.2.1 a5 a6 v4 v8.1 v9.1 v11.1 else uh Cl n x2 m0 n a0 a1 v9.2.2.1 a3 v9.2.1 a5 a6 v4 v8.1 v9.1 v10.1 else some (.agg [sC a4.2.2.1,lC (.im a4.2.2.2.1.1) 3 a4.2.2.2.1.2,lC (.im a4.2.2.2.2.1.1) 6 a4.2.2.2.2.1.2,lC (.im a4.2.2.2.2.2.1.1) 10 a4.2.2.2.2.2.1.2],[bx ao a2]):=by kernel_rfl
theorem ak5 {Cl n x2 m0 a0 a1 a2 a3 a4 a5 a6}:F4 Cl n x2 (m0+1) a0 a1 a2 a3 a4 a5 a6=bif decide (a6 < a5) then ef Cl (ae a1.length) a2 fun eH=>iR eb 0 3 a1 eH.1 fun v21=>ef Cl (ae v21.2.1.2.length) eH.2.1 fun nr=>iR [.str] 0 1 v21.2.1.2 nr.1 fun ej=>c85 Cl v21.1 v21.2.1.1 v21.2.1.2 v21.2.2.1.1 v21.2.2.1.2 ej.1 ((),a4.2.1,a4.2.2.1,a4.2.2.2.1,a4.2.2.2.2.1,(.own,a4.2.2.2.2.2.1),a4.2.2.2.2.2.2) nr.2.1 fun fJ=>kj Cl 7 fun iL=>bif a6==ak (a5 - 1) then kj Cl 6 fun v28=>uh Cl n x2 m0 n a0 a1 fJ.2.2.1 a3 fJ.2.1 a5 a6 v21 ej.1 fJ.1 v28.1 else uh Cl n x2 m0 n a0 a1 fJ.2.2.1 a3 fJ.2.1 a5 a6 v21 ej.1 fJ.1 iL.1 else zZ a4.2.2.2.1.1 fun t29=>zZ a4.2.2.2.2.1.1 fun t30=>gd (zM t29 (fun NS=>zM t30 (fun Ic=>List.length a4.2.2.2.2.2.1==List.length a4.2.2.2.2.2.1 && !List.isEmpty a4.2.2.2.2.2.1) (a4.2.2.2.2.1.2.length==a4.2.2.2.2.1.2.length && !a4.2.2.2.2.1.2.isEmpty)) (a4.2.2.2.1.2.length==a4.2.2.2.1.2.length && !a4.2.2.2.1.2.isEmpty)) (gd (zM t30 (fun Ic=>zM t29 (fun NS=>rL (List.length a4.2.2.2.2.2.1)) (List.length a4.2.2.2.2.2.1==List.length a4.2.2.2.2.2.1 && !List.isEmpty a4.2.2.2.2.2.1)) (zM t29 (fun NS=>List.length a4.2.2.2.2.2.1==List.length a4.2.2.2.2.2.1 && !List.isEmpty a4.2.2.2.2.2.1) (a4.2.2.2.2.1.2.length==a4.2.2.2.2.1.2.length && !a4.2.2.2.2.1.2.isEmpty))) (zO t29 (zM t30 (fun b31=>rL a4.2.2.2.1.2.length) (List.length a4.2.2.2.2.2.1==List.length a4.2.2.2.2.2.1 && !List.isEmpty a4.2.2.2.2.2.1)) (zO t29 (zM t30 (fun b31=>rL (List.length a4.2.2.2.2.2.1)) (rL a4.2.2.2.1.2.length)) (zO t30 (rL a4.2.2.2.2.1.2.length) (zO t30 (rL (List.length a4.2.2.2.2.2.1)) (some (.agg [sC a4.2.2.1,lC (.im (zB t29)) 3 (zW t29 a4.2.2.2.1.2),lC (.im (zB t30)) 6 (zW t30 a4.2.2.2.2.1.2),lC (.im false) 10 (aW (whole a4.2.2.2.2.2.1))],[bx ao a2]))))))):=by kernel_rfl
theorem ak6 {Cl n x2 m0 m1 a0 a1 a2 a3 a4 a5 a6 a7 a8 a9 aO}:uh Cl n x2 m0 (m1+1) a0 a1 a2 a3 a4 a5 a6 a7 a8 a9 aO=Bg Cl a7.1 a7.2.1.1 a7.2.1.2 a7.2.2.1.1 a7.2.2.1.2 a8 fun v12=>c87 Cl a9 a4 a2 fun aP=>ef Cl 4 aP.2.2.1 fun bR=>pk Cl bR.1 ((),aP.2.1.2.1,aP.2.1.2.2.1,aP.2.1.2.2.2.1,(.own,aP.2.1.2.2.2.2.1),aP.2.1.2.2.2.2.2) bR.2.1 fun cq=>bif a6==ak (a5 - 1) then qR Cl aO.1 aO.2.1 aO.2.2.1 aO.2.2.2.1 v12.1 aO.2.2.2.2.2.1 false [[.int .i64 aP.1],[.int .i64 cq.1]] aO.2.2.2.2.2.2.2.1.1 aO.2.2.2.2.2.2.2.1.2 aO.2.2.2.2.2.2.2.2.1.1 aO.2.2.2.2.2.2.2.2.1.2 aO.2.2.2.2.2.2.2.2.2.1 ((),cq.2.1.2.1,cq.2.1.2.2.1,cq.2.1.2.2.2.1,(.own,cq.2.1.2.2.2.2.1),cq.2.1.2.2.2.2.2) cq.2.2.1 fun cB=>F4 Cl n x2 m0 a0 a1 cB.2.2.1 a3 cB.2.1 a5 (ak (a6+1)) else qS Cl aO.1 aO.2.1 aO.2.2.1 aO.2.2.2.1 v12.1 aO.2.2.2.2.2.1 false [[.int .i64 aP.1],[.int .i64 cq.1]] aO.2.2.2.2.2.2.2.1.1 aO.2.2.2.2.2.2.2.1.2 aO.2.2.2.2.2.2.2.2.1.1 aO.2.2.2.2.2.2.2.2.1.2 aO.2.2.2.2.2.2.2.2.2.1 ((),cq.2.1.2.1,cq.2.1.2.2.1,cq.2.1.2.2.2.1,(.own,cq.2.1.2.2.2.2.1),cq.2.1.2.2.2.2.2) cq.2.2.1 fun dS=>F4 Cl n x2 m0 a0 a1 dS.2.2.1 a3 dS.2.1 a5 (ak (a6+1)):=by kernel_rfl
theorem agC {m x0 x1 x2}:Ev (ef (T m) 3 x2 fun v0=>Kh (T m) m x2 m x0 x1 v0.2.1 ([],(true,[]),(true,[]),(true,[]),()) ((),(x0,x1),[109,97,105,110],(true,[]),(true,[]),(true,[]),[],(true,[]),0,0,0,()) (ak (1+v0.1)) 0) (T (m+1) 34 [pE,.one (lC (.im x0) 3 x1)] [bx ao x2]):=aV
theorem agG {m x0 x1 x2 x3 x4 x5 x6 x7 x8 x9 cu bL}:Ev (iR [.str] 0 1 x4 x9 fun v2=>Bg (T m) x2 x3 x4 x5 x6 v2.1 fun v3=>ef (T m) 7 bL fun v4=>En (T m) 0 0 ((),(x0,x1),v3.1,(.own,[[.str [99],.int .i64 5,.str cu],[.str [110],.int .i64 1,.str []]]),(.im true,[]),(.im true,[]),v3.1,(x7,x8),x9,0,ak (9+v4.1),()) v4.2.1 fun v5=>zZ v5.2.1.2.2.2.1.1 fun t6=>zZ v5.2.1.2.2.2.2.1.1 fun t7=>zZ v5.2.1.2.2.2.2.2.1.1 fun t8=>zO t6 (v5.2.1.2.2.2.1.2.length==v5.2.1.2.2.2.1.2.length && !v5.2.1.2.2.2.1.2.isEmpty) (zO t6 (zM t7 (fun NP=>zM t8 (fun b11=>rL v5.2.1.2.2.2.1.2.length) (v5.2.1.2.2.2.2.2.1.2.length==v5.2.1.2.2.2.2.2.1.2.length && !v5.2.1.2.2.2.2.2.1.2.isEmpty)) (v5.2.1.2.2.2.2.1.2.length==v5.2.1.2.2.2.2.1.2.length && !v5.2.1.2.2.2.2.1.2.isEmpty)) (zO t7 (zM t6 (fun b6=>v5.2.1.2.2.2.2.1.2.length==v5.2.1.2.2.2.2.1.2.length && !v5.2.1.2.2.2.2.1.2.isEmpty) (zM t8 (fun b12=>rL v5.2.1.2.2.2.1.2.length) (v5.2.1.2.2.2.2.2.1.2.length==v5.2.1.2.2.2.2.2.1.2.length && !v5.2.1.2.2.2.2.2.1.2.isEmpty))) (zO t7 (zM t8 (fun b9=>rL v5.2.1.2.2.2.2.1.2.length) (zM t6 (fun b6=>v5.2.1.2.2.2.2.2.1.2.length==v5.2.1.2.2.2.2.2.1.2.length && !v5.2.1.2.2.2.2.2.1.2.isEmpty) (rL v5.2.1.2.2.2.1.2.length))) (zO t8 (zM t7 (fun b7=>zM t6 (fun b6=>v5.2.1.2.2.2.2.2.1.2.length==v5.2.1.2.2.2.2.2.1.2.length && !v5.2.1.2.2.2.2.2.1.2.isEmpty) (rL v5.2.1.2.2.2.1.2.length)) (rL v5.2.1.2.2.2.2.1.2.length)) (zO t8 (rL v5.2.1.2.2.2.2.2.1.2.length) (some (.agg [sC v5.2.1.2.2.1,lC (.im (zB t6)) 3 (zW t6 v5.2.1.2.2.2.1.2),lC (.im (zB t7)) 6 (zW t7 v5.2.1.2.2.2.2.1.2),lC (.im (zB t8)) 10 (zW t8 v5.2.1.2.2.2.2.2.1.2)],[bx ao v5.2.2.1])))))))) (T (m+1) 33 [pE,.one (lC (.im x0) 3 x1),.agg [sC x2,lC (.im x3) 1 x4,lC (.im x5) 3 x6],.one (lC (.im x7) 2 x8),.one (iC x9),.one (sC cu)] [bx ao bL]):=aV
theorem OY {m x0 x1}:Ev (c91 (T m) x1 fun v0=>zZ v0.2.1.2.1.1 fun t1=>gd (zM t1 (fun b1=>fT 1 (D.da x0) false&&(b1&&true&&decide ((D.da x0).length * 1≤140737488355328))) (fT 1 (D.da x0) v0.2.1.2.1.2.isEmpty&&true&&true&&v0.2.1.2.1.2.length==v0.2.1.2.1.2.length&&true&&decide ((v0.2.1.2.1.2.length+(D.da x0).length) * 1≤140737488355328))) (zM t1 (fun b1=>bif (D.da x0).isEmpty then some (.aq [.one (iC (ae x0.length)),.one .fS],[bx bl ((),(.im true,D.da x0),())]) else some (.aq [.one (iC (ae x0.length)),.one .fS],[bx bl ((),(.own,D.da x0),())])) (some (.aq [.one (iC (ae x0.length)),.one .fS],[bx bl ((),(.own,v0.2.1.2.1.2++D.da x0),())])))) (T (m+1) 35 [pE,.one (sC x0)] [bx bl x1]):=aV
def J9 x7 m0 a0 a1 a2 a3 a4 a5 a6 a7:=ST.hd 36 0 Cl n [bx bl x7] [m0] ([(.s 0,⟨pE,0⟩)]++bZ (.e 0) 0 bl a0++bZ (.l 3) 1 fw a1++[sE 3 (.ptr (.l 3) 1 0),sE 4 (lC (.im a2) 1 a3),sE 8 (lC (.im a4) 3 a5),sE 9 (iC a6),sE 10 (iC a7)])
def J' x7 m0 a0 a1 a2 a3 a4 a5 a6:=ST.hd 36 0 Cl n [bx bl x7] [m0] ([(.s 0,⟨pE,0⟩)]++bZ (.e 0) 0 bl a0++bZ (.l 3) 1 fw a1++[sE 3 (.ptr (.l 3) 1 0),sE 4 (lC .own 1 a2),sE 8 (lC (.im a3) 3 a4),sE 9 (iC a5),sE 10 (iC a6)])
theorem akK {Cl n x7 m0 a0 a1 a2 a3 a4 a5 a6 a7}:J9 Cl n x7 (m0+1) a0 a1 a2 a3 a4 a5 a6 a7=bif decide (a7 < a6) then iR Dx 0 3 a5 a7 fun v2=>aN (List.length v2.1+2) (Be Cl v2.2.1 v2.2.2.1 fun v3=>aN ((v2.1++[58,32]).length+List.length v3.1) (gd (a2&&true&&true) (J' Cl n x7 m0 a0 a1 [[.str (v2.1++[58,32]++v3.1)]] a4 a5 a6 (ak (a7+1))))) else aN (5+List.length a1.1) (aN (([112,114,111,99,32]++a1.1).length+1) (oo Cl a2 a3 [44,32] fun v4=>aN (([112,114,111,99,32]++a1.1++[40]).length+List.length v4.1) (aN (([112,114,111,99,32]++a1.1++[40]++v4.1).length+3) (ie Cl 0 ([112,114,111,99,32]++a1.1++[40]++v4.1++[41,32,123]) a0 fun v5=>c93 Cl a1.1 a1.2.1.1 a1.2.1.2 a1.2.2.1.1 a1.2.2.1.2 a1.2.2.2.1.1 a1.2.2.2.1.2 0 1 v5.2.1 fun v6=>ie Cl 0 [125] v6.2.1 fun v7=>some (.aq [],[bx bl v7.2.1]))))):=by kernel_rfl
theorem akL {Cl n x7 m0 a0 a1 a2 a3 a4 a5 a6}:J' Cl n x7 (m0+1) a0 a1 a2 a3 a4 a5 a6=bif decide (a6 < a5) then iR Dx 0 3 a4 a6 fun v10=>aN (List.length v10.1+2) (Be Cl v10.2.1 v10.2.2.1 fun v11=>aN ((v10.1++[58,32]).length+List.length v11.1) (gd (rO a2.length 16) (J' Cl n x7 m0 a0 a1 (a2++whole ([[D.str []]].set 0 [D.str (v10.1++[58,32]++v11.1)])) a3 a4 a5 (ak (a6+1))))) else aN (5+List.length a1.1) (aN (([112,114,111,99,32]++a1.1).length+1) (gd (rL a2.length) (oo Cl false (aW (whole a2)) [44,32] fun v12=>aN (([112,114,111,99,32]++a1.1++[40]).length+List.length v12.1) (aN (([112,114,111,99,32]++a1.1++[40]++v12.1).length+3) (ie Cl 0 ([112,114,111,99,32]++a1.1++[40]++v12.1++[41,32,123]) a0 fun aP=>c93 Cl a1.1 a1.2.1.1 a1.2.1.2 a1.2.2.1.1 a1.2.2.1.2 a1.2.2.2.1.1 a1.2.2.2.1.2 0 1 aP.2.1 fun bR=>ie Cl 0 [125] bR.2.1 fun cq=>some (.aq [],[bx bl cq.2.1])))))):=by kernel_rfl
theorem age {m x0 x1 x2 x3 x4 x5 x6 x7}:Ev (J9 (T m) m x7 m x7 (x0,(x1,x2),(x3,x4),(x5,x6),()) true [] x1 x2 (ae x2.length) 0) (T (m+1) 36 [pE,.agg [sC x0,lC (.im x1) 3 x2,lC (.im x3) 6 x4,lC (.im x5) 10 x6]] [bx bl x7]):=aV
theorem Xu {m x0}:Ev (zZ x0.2.1.1 fun t0=>zM t0 (fun b0=>none) (gd (!x0.2.1.2.length==0&&true) (gd (x0.2.1.2.length==x0.2.1.2.length && !x0.2.1.2.length==0&&decide (x0.2.1.2.length≤140737488355328)) (aD (kA x0.2.1.2) fun o1=>some (.one (sC o1),[bx yo ((),(),())]))))) (T (m+1) 37 [pE] [bx bl x0]):=aV
theorem ag8 {m x0}:Ev (some (.one (.fn 39 [] [.ptr (.e 0) 0 0,.ptr (.e 1) 0 0]),[bx ka ((.im x0.1.1,x0.1.2),(.im x0.2.1.1,x0.2.1.2),(.im x0.2.2.1.1,x0.2.2.1.2),()),bx jN ((),())])) (T (m+1) 38 [.one (.fn 1000000000000 [] [.fn 42 [] [],.fn 43 [] []]),pE] [bx cZ x0]):=aV
theorem aha {m x0}:Ev (some (.one (.fn 39 [] [.ptr (.e 0) 0 0,.ptr (.e 1) 0 0]),[bx ka ((.im x0.1.1,x0.1.2),(.im x0.2.1.1,x0.2.1.2),(.im x0.2.2.1.1,x0.2.2.1.2),()),bx kY ((),())])) (T (m+1) 38 [.one (.fn 1000000000000 [] [.fn 47 [] []]),pE] [bx cZ x0]):=aV
theorem ahb {m x0}:Ev (Wz (T m) x0.1.1 x0.1.2 x0.2.1.1 x0.2.1.2 x0.2.2.1.1 x0.2.2.1.2 fun v0=>some (.agg [iC v0.1.1,iC v0.1.2.1,iC v0.1.2.2.1],[bx ka ((.im x0.1.1,x0.1.2),(.im x0.2.1.1,x0.2.1.2),(.im x0.2.2.1.1,x0.2.2.1.2),())])) (T (m+1) 40 [pE] [bx cZ x0]):=aV
def KR x0 x1 m0 a0 a1 a2 a3 a4:=ST.hd 39 0 Cl n [bx cZ x0,bx jN x1] [m0] ([(.s 0,⟨pE,0⟩),sE 1 (.ptr (.e 1) 0 0)]++bZ (.e 0) 0 ka a0++bZ (.e 1) 0 jN a1++bZ (.l 2) 1 eO a2++[sE 2 (.ptr (.l 2) 1 0),sE 9 (iC a3),sE 10 (iC a4)])
def KS x0 x1 m0 m1 a0 a1 a2 a3 a4 a5:=ST.hd 39 1 Cl n [bx cZ x0,bx jN x1] [m0,m1] ([(.s 0,⟨pE,0⟩),sE 1 (.ptr (.e 1) 0 0)]++bZ (.e 0) 0 ka a0++bZ (.e 1) 0 jN a1++bZ (.l 2) 1 eO a2++[sE 2 (.ptr (.l 2) 1 0),sE 9 (iC a3),sE 10 (iC a4),sE 3 (iC a5),sE 13 (.fn 1000000000000 [] [.fn 42 [] [],.fn 43 [] []]),sE 14 (iC 2),sE 15 (iC 0)])
def aaq x0 x1 m0 m1 a0 a1 a2 a3 a4 a5:=ST.hd 39 1 Cl n [bx cZ x0,bx jN x1] [m0,m1] ([(.s 0,⟨pE,0⟩),sE 1 (.ptr (.e 1) 0 0)]++bZ (.e 0) 0 ka a0++bZ (.e 1) 0 jN a1++bZ (.l 2) 1 eO a2++[sE 2 (.ptr (.l 2) 1 0),sE 9 (iC a3),sE 10 (iC a4),sE 3 (iC a5),sE 13 (.fn 1000000000000 [] [.fn 42 [] [],.fn 43 [] []]),sE 14 (iC 2),sE 15 (iC 1)])
def aar x0 x1 m0 m1 a0 a1 a2 a3 a4 a5:=ST.hd 39 1 Cl n [bx cZ x0,bx jN x1] [m0,m1] ([(.s 0,⟨pE,0⟩),sE 1 (.ptr (.e 1) 0 0)]++bZ (.e 0) 0 ka a0++bZ (.e 1) 0 jN a1++bZ (.l 2) 1 eO a2++[sE 2 (.ptr (.l 2) 1 0),sE 9 (iC a3),sE 10 (iC a4),sE 3 (iC a5),sE 13 (.fn 1000000000000 [] [.fn 42 [] [],.fn 43 [] []]),sE 14 (iC 2),sE 15 (iC 2)])
theorem ami {Cl n x0 x1 m0 a0 a1 a2 a3 a4}:KR Cl n x0 x1 (m0+1) a0 a1 a2 a3 a4=bif decide (a4 < a3) then KS Cl n x0 x1 m0 n a0 ((),()) a2 a3 a4 a4 else some (.agg [iC 0,iC 0,iC 0],[bx ka a0,bx jN ((),())]):=by kernel_rfl
theorem amj {Cl n x0 x1 m0 m1 a0 a1 a2 a3 a4 a5}:KS Cl n x0 x1 m0 (m1+1) a0 a1 a2 a3 a4 a5=zZ a0.1.1 fun t0=>zZ a0.2.1.1 fun t1=>zZ a0.2.2.1.1 fun t2=>zO t0 (rL a0.1.2.length) (zO t1 (rL a0.2.1.2.length) (zO t2 (rL a0.2.2.1.2.length) (WA Cl (zB t0) (zW t0 a0.1.2) (zB t1) (zW t1 a0.2.1.2) (zB t2) (zW t2 a0.2.2.1.2) a5 fun v3=>bif v3.1.1 != 0 then some (.agg [iC v3.1.1,iC v3.1.2.1,iC v3.1.2.2.1],[bx ka ((t0,a0.1.2),(t1,a0.2.1.2),(t2,a0.2.2.1.2),()),bx jN ((),())]) else aaq Cl n x0 x1 m0 m1 ((t0,a0.1.2),(t1,a0.2.1.2),(t2,a0.2.2.1.2),()) ((),()) a2 a3 a4 a5))):=by kernel_rfl
theorem amk {Cl n x0 x1 m0 m1 a0 a1 a2 a3 a4 a5}:aaq Cl n x0 x1 m0 (m1+1) a0 a1 a2 a3 a4 a5=zZ a0.1.1 fun t15=>zZ a0.2.1.1 fun t16=>zZ a0.2.2.1.1 fun t17=>zO t15 (rL a0.1.2.length) (zO t16 (rL a0.2.1.2.length) (zO t17 (rL a0.2.2.1.2.length) (WC Cl (zB t15) (zW t15 a0.1.2) (zB t16) (zW t16 a0.2.1.2) (zB t17) (zW t17 a0.2.2.1.2) a5 fun eH=>bif eH.1.1 != 0 then some (.agg [iC eH.1.1,iC eH.1.2.1,iC eH.1.2.2.1],[bx ka ((t15,a0.1.2),(t16,a0.2.1.2),(t17,a0.2.2.1.2),()),bx jN ((),())]) else aar Cl n x0 x1 m0 m1 ((t15,a0.1.2),(t16,a0.2.1.2),(t17,a0.2.2.1.2),()) ((),()) a2 a3 a4 a5))):=by kernel_rfl
theorem aml {Cl n x0 x1 m0 m1 a0 a1 a2 a3 a4 a5}:aar Cl n x0 x1 m0 (m1+1) a0 a1 a2 a3 a4 a5=KR Cl n x0 x1 m0 a0 ((),()) a2 a3 (ak (a4+1)):=by kernel_rfl
theorem ag9 {m x0 x1}:Ev (KR (T m) m x0 x1 m ((.im x0.1.1,x0.1.2),(.im x0.2.1.1,x0.2.1.2),(.im x0.2.2.1.1,x0.2.2.1.2),()) ((),()) (0,0,0,()) (ae x0.2.2.1.2.length) 0) (T (m+1) 39 [pE,.one (.ptr (.e 1) 0 0)] [bx cZ x0,bx jN x1]):=aV
theorem ahc {m x0}:Ev (El (T m) x0.1.1 x0.1.2 x0.2.1.1 x0.2.1.2 x0.2.2.1.1 x0.2.2.1.2 [109,97,105,110] fun v0=>bif decide (v0.1 < 0) then c46 (T m) 1504 (-1) (-1) fun v1=>some (.agg [iC v1.1.1,iC v1.1.2.1,iC v1.1.2.2.1],[bx ka ((.im x0.1.1,x0.1.2),(.im x0.2.1.1,x0.2.1.2),(.im x0.2.2.1.1,x0.2.2.1.2),())]) else iR [.im 3] 1 1 x0.2.2.1.2 v0.1 fun v4=>bif decide (ae v4.1.2.length > 0) then c46 (T m) 1504 (-1) (-1) fun v5=>some (.agg [iC v5.1.1,iC v5.1.2.1,iC v5.1.2.2.1],[bx ka ((.im x0.1.1,x0.1.2),(.im x0.2.1.1,x0.2.1.2),(.im x0.2.2.1.1,x0.2.2.1.2),())]) else some (.agg [iC 0,iC 0,iC 0],[bx ka ((.im x0.1.1,x0.1.2),(.im x0.2.1.1,x0.2.1.2),(.im x0.2.2.1.1,x0.2.2.1.2),())])) (T (m+1) 44 [pE] [bx cZ x0]):=aV
def KT x0 x1 m0 a0 a1 a2 a3 a4:=ST.hd 39 0 Cl n [bx cZ x0,bx kY x1] [m0] ([(.s 0,⟨pE,0⟩),sE 1 (.ptr (.e 1) 0 0)]++bZ (.e 0) 0 ka a0++bZ (.e 1) 0 kY a1++bZ (.l 2) 1 eO a2++[sE 2 (.ptr (.l 2) 1 0),sE 9 (iC a3),sE 10 (iC a4)])
def KU x0 x1 m0 m1 a0 a1 a2 a3 a4 a5:=ST.hd 39 1 Cl n [bx cZ x0,bx kY x1] [m0,m1] ([(.s 0,⟨pE,0⟩),sE 1 (.ptr (.e 1) 0 0)]++bZ (.e 0) 0 ka a0++bZ (.e 1) 0 kY a1++bZ (.l 2) 1 eO a2++[sE 2 (.ptr (.l 2) 1 0),sE 9 (iC a3),sE 10 (iC a4),sE 3 (iC a5),sE 13 (.fn 1000000000000 [] [.fn 47 [] []]),sE 14 (iC 1),sE 15 (iC 0)])
def aas x0 x1 m0 m1 a0 a1 a2 a3 a4 a5:=ST.hd 39 1 Cl n [bx cZ x0,bx kY x1] [m0,m1] ([(.s 0,⟨pE,0⟩),sE 1 (.ptr (.e 1) 0 0)]++bZ (.e 0) 0 ka a0++bZ (.e 1) 0 kY a1++bZ (.l 2) 1 eO a2++[sE 2 (.ptr (.l 2) 1 0),sE 9 (iC a3),sE 10 (iC a4),sE 3 (iC a5),sE 13 (.fn 1000000000000 [] [.fn 47 [] []]),sE 14 (iC 1),sE 15 (iC 1)])
theorem amm {Cl n x0 x1 m0 a0 a1 a2 a3 a4}:KT Cl n x0 x1 (m0+1) a0 a1 a2 a3 a4=bif decide (a4 < a3) then KU Cl n x0 x1 m0 n a0 ((),()) a2 a3 a4 a4 else some (.agg [iC 0,iC 0,iC 0],[bx ka a0,bx kY ((),())]):=by kernel_rfl
theorem amn {Cl n x0 x1 m0 m1 a0 a1 a2 a3 a4 a5}:KU Cl n x0 x1 m0 (m1+1) a0 a1 a2 a3 a4 a5=zZ a0.1.1 fun t0=>zZ a0.2.1.1 fun t1=>zZ a0.2.2.1.1 fun t2=>zO t0 (rL a0.1.2.length) (zO t1 (rL a0.2.1.2.length) (zO t2 (rL a0.2.2.1.2.length) (WD Cl (zB t0) (zW t0 a0.1.2) (zB t1) (zW t1 a0.2.1.2) (zB t2) (zW t2 a0.2.2.1.2) a5 fun v3=>bif v3.1.1 != 0 then some (.agg [iC v3.1.1,iC v3.1.2.1,iC v3.1.2.2.1],[bx ka ((t0,a0.1.2),(t1,a0.2.1.2),(t2,a0.2.2.1.2),()),bx kY ((),())]) else aas Cl n x0 x1 m0 m1 ((t0,a0.1.2),(t1,a0.2.1.2),(t2,a0.2.2.1.2),()) ((),()) a2 a3 a4 a5))):=by kernel_rfl
theorem amo {Cl n x0 x1 m0 m1 a0 a1 a2 a3 a4 a5}:aas Cl n x0 x1 m0 (m1+1) a0 a1 a2 a3 a4 a5=KT Cl n x0 x1 m0 a0 ((),()) a2 a3 (ak (a4+1)):=by kernel_rfl
theorem ag' {m x0 x1}:Ev (KT (T m) m x0 x1 m ((.im x0.1.1,x0.1.2),(.im x0.2.1.1,x0.2.1.2),(.im x0.2.2.1.1,x0.2.2.1.2),()) ((),()) (0,0,0,()) (ae x0.2.2.1.2.length) 0) (T (m+1) 39 [pE,.one (.ptr (.e 1) 0 0)] [bx cZ x0,bx kY x1]):=aV
def Z5 x1 m0 a0 a1:=ST.hd 73 0 Cl n [bx ao x1] [m0] ([(.s 0,⟨pE,0⟩),sE 1 (iC a0)]++bZ (.e 0) 0 ao a1)
theorem Z6 {Cl n x1 m0 a0 a1}:Z5 Cl n x1 (m0+1) a0 a1=zZ a1.1.1 fun t1=>zI t1 cf 0 1 a1.1.2 (ak (ak (a1.2.1+1) - 1)) fun v4=>gd (!decide (iO a0=0)) (some (.one (iC (ak ((iO v4.1).tmod (iO a0)))),[bx ao ((t1,a1.1.2),ak (a1.2.1+1),())])):=by kernel_rfl
theorem OV {m x0 x1}:Ev (bif decide (x0 < 1) then some (.one (iC 0),[bx ao x1]) else zZ x1.1.1 fun t0=>bif decide (x1.2.1≥ae x1.1.2.length) then some (.one (iC 0),[bx ao ((t0,x1.1.2),x1.2.1,())]) else Z5 (T m) m x1 m x0 ((t0,x1.1.2),x1.2.1,())) (T (m+1) 73 [pE,.one (iC x0)] [bx ao x1]):=aV
theorem agH {m}:Ev (some (.one (lC (.im false) 1 [[.str [97]],[.str [98]],[.str [99]],[.str [100]],[.str [101]]]),[])) (T (m+1) 48 [] []):=aV
def Z' x3 m0 a0 a1 a2 a3 a4 a5 a6 a7 a8:=ST.hd 74 0 Cl n [bx ao x3] [m0] ([(.s 0,⟨pE,0⟩),sE 1 (lC (.im a0) 1 a1),sE 2 (iC a2)]++bZ (.e 0) 0 ao a3++[sE 7 (lC (.im a4) 4 a5),sE 8 (iC a6),sE 9 (iC a7),sE 10 (iC a8)])
def Kg x3 m0 a0 a1 a2 a3 a4 a5 a6 a7:=ST.hd 74 0 Cl n [bx ao x3] [m0] ([(.s 0,⟨pE,0⟩),sE 1 (lC (.im a0) 1 a1),sE 2 (iC a2)]++bZ (.e 0) 0 ao a3++[sE 7 (lC .own 4 a4),sE 8 (iC a5),sE 9 (iC a6),sE 10 (iC a7)])
theorem akY {Cl n x3 m0 a0 a1 a2 a3 a4 a5 a6 a7 a8}:Z' Cl n x3 (m0+1) a0 a1 a2 a3 a4 a5 a6 a7 a8=bif decide (a8 < a6) then c49 Cl fun v2=>iR [.str] 0 1 v2.1.2 ((ak (a7+a8)).tmod 4) fun v5=>N5 Cl a0 a1 a3 fun v6=>ef Cl a2 v6.2.1 fun v7=>gd (a4&&true&&true) (Kg Cl n x3 m0 a0 a1 a2 v7.2.1 [[.str v5.1,.int .i64 v6.1.1,.str v6.1.2.1,.int .i64 v7.1]] a6 a7 (ak (a8+1))) else some (.one (lC (.im a4) 4 a5),[bx ao a3]):=by kernel_rfl
theorem aac {Cl n x3 m0 a0 a1 a2 a3 a4 a5 a6 a7}:Kg Cl n x3 (m0+1) a0 a1 a2 a3 a4 a5 a6 a7=bif decide (a7 < a5) then c49 Cl fun v8=>iR [.str] 0 1 v8.1.2 ((ak (a6+a7)).tmod 4) fun v11=>N5 Cl a0 a1 a3 fun v12=>ef Cl a2 v12.2.1 fun aP=>gd (rO a4.length 48) (Kg Cl n x3 m0 a0 a1 a2 aP.2.1 (a4++[[D.str [],D.int .i64 0,D.str [],D.int .i64 0]].set 0 [D.str v11.1,D.int .i64 v12.1.1,D.str v12.1.2.1,D.int .i64 aP.1]) a5 a6 (ak (a7+1))) else gd (rL a4.length) (some (.one (lC (.im false) 4 (aW (whole a4))),[bx ao a3])):=by kernel_rfl
theorem ags {m x0 x1 x2 x3}:Ev (ef (T m) 3 x3 fun v0=>ef (T m) 4 v0.2.1 fun v1=>Z' (T m) m x3 m x0 x1 x2 v1.2.1 true [] (ak (1+v0.1)) v1.1 0) (T (m+1) 74 [pE,.one (lC (.im x0) 1 x1),.one (iC x2)] [bx ao x3]):=aV
def FR m0 a0 a1 a2 a3 a4:=ST.hd 55 0 Cl n [] [m0] (bZ (.l 1) 1 eb a0++[sE 1 (.ptr (.l 1) 1 0),sE 47 (lC (.im a1) 3 a2),sE 48 (iC a3),sE 49 (iC a4)])
def JZ m0 m1 a0 a1 a2 a3 a4 a5:=ST.hd 55 1 Cl n [] [m0,m1] (bZ (.l 1) 1 eb a0++[sE 1 (.ptr (.l 1) 1 0),sE 47 (lC (.im a1) 3 a2),sE 48 (iC a3),sE 49 (iC a4)]++bZ (.l 6) 1 kZ a5++[sE 6 (.ptr (.l 6) 1 0)])
def J0 m2 a0 a1 a2 a3 a4:=ST.hd 55 2 Cl n [] [m2] (bZ (.l 1) 1 eb a0++[sE 1 (.ptr (.l 1) 1 0),sE 36 (lC (.im a1) 1 a2),sE 37 (iC a3),sE 38 (iC a4)])
def ZX m3 a0:=ST.hd 55 3 Cl n [] [m3] (bZ (.l 1) 1 eb a0++[sE 1 (.ptr (.l 1) 1 0)])
theorem akl {Cl n m0 a0 a1 a2 a3 a4}:FR Cl n (m0+1) a0 a1 a2 a3 a4=bif decide (a4 < a3) then iR kZ 0 3 a2 a4 fun v8=>bif v8.1==[] then bif v8.2.1==[] then bif ae v8.2.2.1.2.length==0 then FR Cl n m0 a0 a1 a2 a3 (ak (a4+1)) else JZ Cl n m0 n a0 a1 a2 a3 a4 v8 else JZ Cl n m0 n a0 a1 a2 a3 a4 v8 else JZ Cl n m0 n a0 a1 a2 a3 a4 v8 else afk Cl a0.1 a0.2.1.1 a0.2.1.2 a0.2.2.1.1 a0.2.2.1.2 fun v9=>c53 Cl v9.1.1 v9.1.2.1.1 v9.1.2.1.2 fun v10=>some (.one (bC v10.1),[]):=by kernel_rfl
theorem akm {Cl n m0 m1 a0 a1 a2 a3 a4 a5}:JZ Cl n m0 (m1+1) a0 a1 a2 a3 a4 a5=yQ Cl a0.2.1.1 a0.2.1.2 a5.1 fun v11=>bif !v11.1 then rF else yQ Cl a0.2.1.1 a0.2.1.2 a5.2.1 fun v12=>bif !v12.1 then rF else bif a5.1==a5.2.1 then rF else FR Cl n m0 a0 a1 a2 a3 (ak (a4+1)):=by kernel_rfl
theorem akn {Cl n m2 a0 a1 a2 a3 a4}:J0 Cl n (m2+1) a0 a1 a2 a3 a4=bif decide (a4 < a3) then iR [.str] 0 1 a2 a4 fun v4=>fE Cl v4.1 fun v5=>bif !v5.1 then rF else J0 Cl n m2 a0 a1 a2 a3 (ak (a4+1)) else FR Cl n n a0 a0.2.2.1.1 a0.2.2.1.2 (ae a0.2.2.1.2.length) 0:=by kernel_rfl
theorem ako {Cl n m3 a0}:ZX Cl n (m3+1) a0=J0 Cl n n a0 a0.2.1.1 a0.2.1.2 (ae a0.2.1.2.length) 0:=by kernel_rfl
theorem afW {m x0 x1 x2 x3 x4}:Ev (fE (T m) x0 fun v0=>bif !v0.1 then rF else bif decide (ae x2.length < 2) then rF else bif decide (ae x2.length > 5) then rF else uW (T m) x1 x2 fun v1=>bif !v1.1 then rF else bif decide (ae x4.length > 24) then rF else ZX (T m) m m (x0,(x1,x2),(x3,x4),())) (T (m+1) 55 [.agg [sC x0,lC (.im x1) 1 x2,lC (.im x3) 3 x4]] []):=aV
def xI m0 a0 a1 a2 a3 a4 a5:=ST.hd 56 0 Cl n [] [m0] ([sE 1 (sC a0)]++bZ (.l 8) 1 bl a1++[sE 8 (.ptr (.l 8) 1 0),sE 63 (lC (.im a2) 1 a3),sE 64 (iC a4),sE 65 (iC a5)])
def Lq m1 a0 a1 a2 a3 a4 a5 a6 a7:=ST.hd 56 1 Cl n [] [m1] ([sE 0 (lC (.im a0) 1 a1),sE 1 (sC a2),sE 5 (iC a3),sE 39 (lC (.im a4) 1 a5),sE 40 (iC a6),sE 41 (iC a7)])
def aau m2 a0 a1 a2 a3:=ST.hd 56 2 Cl n [] [m2] ([sE 0 (lC (.im a0) 1 a1),sE 1 (sC a2),sE 5 (iC a3)])
def RA m3 a0 a1 a2 a3:=ST.hd 56 3 Cl n [] [m3] ([sE 0 (lC (.im a0) 1 a1),sE 1 (sC a2),sE 5 (iC a3)])
theorem ane {Cl n m0 a0 a1 a2 a3 a4 a5}:xI Cl n (m0+1) a0 a1 a2 a3 a4 a5=bif decide (a5 < a4) then iR [.str] 0 1 a3 a5 fun v11=>dv Cl a0 a1 fun v12=>bif v12.1.2.1 then dv Cl v11.1 v12.2.1 fun aP=>bif aP.1.2.1 then xI Cl n m0 a0 aP.2.1 a2 a3 a4 (ak (a5+1)) else xI Cl n m0 a0 aP.2.1 a2 a3 a4 (ak (a5+1)) else dv Cl v11.1 v12.2.1 fun bR=>bif bR.1.2.1 then xI Cl n m0 a0 bR.2.1 a2 a3 a4 (ak (a5+1)) else xI Cl n m0 a0 bR.2.1 a2 a3 a4 (ak (a5+1)) else c37 Cl a1 fun cq=>rS cq.1:=by kernel_rfl
theorem anf {Cl n m1 a0 a1 a2 a3 a4 a5 a6 a7}:Lq Cl n (m1+1) a0 a1 a2 a3 a4 a5 a6 a7=bif decide (a7 < a6) then iR [.str] 0 1 a5 a7 fun v4=>bif decide (ae (List.length v4.1) > ak (9223372036854775807 - a3)) then none else Lq Cl n m1 a0 a1 a2 (ak (a3+ae (List.length v4.1))) a4 a5 a6 (ak (a7+1)) else Wb Cl a3 ((),(.im true,[]),()) fun v5=>aD (a1[Int.toNat 0]?) fun o6=>gd (decide (1≤o6.length)) (cA [.str] (List.take 1 o6) fun v7=>dv Cl v7.1 v5.2.1 fun v8=>bif v8.1.2.1 then gd (decide (Int.toNat 1≤a1.length)&&decide (a1.length≤a1.length)) (xI Cl n n a2 v8.2.1 a0 (List.take (a1.length - Int.toNat 1) (List.drop (1) a1)) (ae (List.take (a1.length - Int.toNat 1) (List.drop (1) a1)).length) 0) else gd (decide (Int.toNat 1≤a1.length)&&decide (a1.length≤a1.length)) (xI Cl n n a2 v8.2.1 a0 (List.take (a1.length - Int.toNat 1) (List.drop (1) a1)) (ae (List.take (a1.length - Int.toNat 1) (List.drop (1) a1)).length) 0)):=by kernel_rfl
theorem ang {Cl n m2 a0 a1 a2 a3}:aau Cl n (m2+1) a0 a1 a2 a3=RA Cl n n a0 a1 a2 (ak (a3+ak (ae a2.length * ak (ae a1.length - 1)))):=by kernel_rfl
theorem anh {Cl n m3 a0 a1 a2 a3}:RA Cl n (m3+1) a0 a1 a2 a3=Lq Cl n n a0 a1 a2 a3 a0 a1 (ae a1.length) 0:=by kernel_rfl
theorem Xt {m x0 x1 x2}:Ev (bif ae x1.length==0 then rS [] else bif ae x1.length==1 then aD (x1[Int.toNat 0]?) fun o0=>gd (decide (1≤o0.length)) (cA [.str] (List.take 1 o0) fun v1=>rS v1.1) else bif decide (ae x2.length > 0) then gd (!decide (ak (ae x1.length - 1)=0)) (bif decide (ae x2.length≥ak (Int.tdiv 9223372036854775807 (ak (ae x1.length - 1)))) then none else aau (T m) m m x0 x1 x2 0) else RA (T m) m m x0 x1 x2 0) (T (m+1) 56 [.one (lC (.im x0) 1 x1),.one (sC x2)] []):=aV
def Z3 m0 a0 a1 a2 a3 a4 a5:=ST.hd 58 0 Cl n [] [m0] ([sE 3 (lC (.im a0) 1 a1),sE 6 (lC (.im a2) 4 a3),sE 7 (iC a4),sE 8 (iC a5)])
def J6 m0 a0 a1 a2 a3 a4:=ST.hd 58 0 Cl n [] [m0] ([sE 3 (lC .own 1 a0),sE 6 (lC (.im a1) 4 a2),sE 7 (iC a3),sE 8 (iC a4)])
theorem akD {Cl n m0 a0 a1 a2 a3 a4 a5}:Z3 Cl n (m0+1) a0 a1 a2 a3 a4 a5=bif decide (a5 < a4) then iR Dy 0 4 a3 a5 fun v2=>aN (List.length v2.1+1) (Be Cl v2.2.1 v2.2.2.1 fun v3=>aN ((v2.1++[40]).length+List.length v3.1) (aN ((v2.1++[40]++v3.1).length+2) (Em Cl v2.2.2.2.1 fun v4=>aN ((v2.1++[40]++v3.1++[41,32]).length+List.length v4.1) (gd (a0&&true&&true) (J6 Cl n m0 [[.str (v2.1++[40]++v3.1++[41,32]++v4.1)]] a2 a3 a4 (ak (a5+1))))))) else oo Cl a0 a1 [44,32] fun v5=>aN (3+List.length v5.1) (aN (([32,123,32]++v5.1).length+2) (rS ([32,123,32]++v5.1++[32,125]))):=by kernel_rfl
theorem akE {Cl n m0 a0 a1 a2 a3 a4}:J6 Cl n (m0+1) a0 a1 a2 a3 a4=bif decide (a4 < a3) then iR Dy 0 4 a2 a4 fun v8=>aN (List.length v8.1+1) (Be Cl v8.2.1 v8.2.2.1 fun v9=>aN ((v8.1++[40]).length+List.length v9.1) (aN ((v8.1++[40]++v9.1).length+2) (Em Cl v8.2.2.2.1 fun v10=>aN ((v8.1++[40]++v9.1++[41,32]).length+List.length v10.1) (gd (rO a0.length 16) (J6 Cl n m0 (a0++whole ([[D.str []]].set 0 [D.str (v8.1++[40]++v9.1++[41,32]++v10.1)])) a1 a2 a3 (ak (a4+1))))))) else gd (rL a0.length) (oo Cl false (aW (whole a0)) [44,32] fun v11=>aN (3+List.length v11.1) (aN (([32,123,32]++v11.1).length+2) (rS ([32,123,32]++v11.1++[32,125])))):=by kernel_rfl
theorem af9 {m x0 x1}:Ev (Z3 (T m) m m true [] x0 x1 (ae x1.length) 0) (T (m+1) 58 [.one (lC (.im x0) 4 x1)] []):=aV
def Lr m0 a0 a1 a2 a3 a4:=ST.hd 53 0 Cl n [] [m0] (bZ (.l 1) 1 oU a0++[sE 1 (.ptr (.l 1) 1 0),sE 16 (lC (.im a1) 3 a2),sE 17 (iC a3),sE 18 (iC a4)])
def Gp m0 m1 a0 a1 a2 a3 a4 a5:=ST.hd 53 1 Cl n [] [m0,m1] (bZ (.l 1) 1 oU a0++[sE 1 (.ptr (.l 1) 1 0),sE 16 (lC (.im a1) 3 a2),sE 17 (iC a3),sE 18 (iC a4)]++bZ (.l 4) 1 jz a5)
def aay m2 a0:=ST.hd 53 2 Cl n [] [m2] (bZ (.l 1) 1 oU a0++[sE 1 (.ptr (.l 1) 1 0)])
theorem anl {Cl n m0 a0 a1 a2 a3 a4}:Lr Cl n (m0+1) a0 a1 a2 a3 a4=bif decide (a4 < a3) then iR jz 0 3 a2 a4 fun v2=>bif v2.1==0 then bif !v2.2.1==[] then rF else bif decide (ae v2.2.2.1.2.length > 0) then rF else Gp Cl n m0 n a0 a1 a2 a3 a4 v2 else bif v2.1==1 then fE Cl v2.2.1 fun v3=>bif !v3.1 then rF else Wa Cl v2.2.2.1.1 v2.2.2.1.2 (ae a0.2.1.2.length) fun v4=>bif !v4.1 then rF else Gp Cl n m0 n a0 a1 a2 a3 a4 v2 else bif v2.1==2 then fE Cl v2.2.1 fun v5=>bif !v5.1 then rF else Wa Cl v2.2.2.1.1 v2.2.2.1.2 (ae a0.2.1.2.length) fun v6=>bif !v6.1 then rF else Gp Cl n m0 n a0 a1 a2 a3 a4 v2 else rF else rT:=by kernel_rfl
theorem anm {Cl n m0 m1 a0 a1 a2 a3 a4 a5}:Gp Cl n m0 (m1+1) a0 a1 a2 a3 a4 a5=Lr Cl n m0 a0 a1 a2 a3 (ak (a4+1)):=by kernel_rfl
theorem ano {Cl n m2 a0}:aay Cl n (m2+1) a0=Lr Cl n n a0 a0.2.1.1 a0.2.1.2 (ae a0.2.1.2.length) 0:=by kernel_rfl
theorem ahD {m x0 x1 x2}:Ev (bif decide (ae x2.length < 1) then rF else bif decide (ae x2.length > 40) then rF else aay (T m) m m (x0,(x1,x2),())) (T (m+1) 53 [.agg [sC x0,lC (.im x1) 3 x2]] []):=aV
def FU m0 a0 a1:=ST.hd 62 0 Cl n [] [m0] ([sE 0 (sC a0),sE 3 (iC a1)])
def ZZ m1 a0:=ST.hd 62 1 Cl n [] [m1] ([sE 0 (sC a0)])
theorem aku {Cl n m0 a0 a1}:FU Cl n (m0+1) a0 a1=bif decide (a1 < ae a0.length) then aD (bY a1) fun o3=>aD (a0[o3]?) fun o4=>aH bj (Cl 115 [.one (.d (.int .u8 (ae o4.toNat)))] []) fun v5=>bif !v5.1 then aD (bY a1) fun o6=>aD (a0[o6]?) fun o7=>aH bj (Cl 117 [.one (.d (.int .u8 (ae o7.toNat)))] []) fun v8=>bif !v8.1 then rF else FU Cl n m0 a0 (ak (a1+1)) else FU Cl n m0 a0 (ak (a1+1)) else rT:=by kernel_rfl
theorem akv {Cl n m1 a0}:ZZ Cl n (m1+1) a0=FU Cl n n a0 1:=by kernel_rfl
theorem af1 {m x0}:Ev (bif decide (ae x0.length < 1) then rF else bif decide (ae x0.length > 12) then rF else aD (x0[Int.toNat 0]?) fun o0=>aH bj ((T m) 115 [.one (.d (.int .u8 (ae o0.toNat)))] []) fun v1=>bif !v1.1 then rF else c116 (T m) x0 fun v2=>bif v2.1 then rF else ZZ (T m) m m x0) (T (m+1) 62 [.one (sC x0)] []):=aV
def aav m0 a0 a1:=ST.hd 25 0 Cl n [] [m0] ([sE 1 (iC a0)]++bZ (.l 2) 1 [.tg 6] a1++[sE 2 (.ptr (.l 2) 1 0)])
theorem ani {Cl n m0 a0 a1}:aav Cl n (m0+1) a0 a1=zZ a1.1.1 fun t0=>gd (decide (a1.1.2.length≤a1.1.2.length)&&decide (a1.1.2.length * 2≤140737488355328)&&decide (a1.1.2.length≤9223372036854775807)&&true&&(!a1.1.2.length==0||a1.1.2.length==0)) (aH G9 (Cl 67 [.one (iC a0),.one (iC 1),pE,.one (.ptr (.e 1) 0 0),.one (.ptr (.e 2) 0 0)] [bx [.tg 6] ((t0,a1.1.2),()),bx [.tg 1] ((.own,List.replicate a1.1.2.length [D.bool false]),()),bx kz ((),())]) fun v1=>some (.one (bC v1.1),[])):=by kernel_rfl
theorem ahy {m x0 x1 x2}:Ev (bif decide (ae x1.length > 160) then rF else bif decide (x2 < 0) then rF else bif decide (x2≥ae x1.length) then rF else aav (T m) m m x2 ((.im x0,x1),())) (T (m+1) 25 [.one (lC (.im x0) 6 x1),.one (iC x2)] []):=aV
end
end Go.Proofs.YtfmpdgeiodnnfaaGreatDoor
