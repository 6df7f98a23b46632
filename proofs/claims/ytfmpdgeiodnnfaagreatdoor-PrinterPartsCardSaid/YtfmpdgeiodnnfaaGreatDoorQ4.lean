/- A part of the proof. -/
import Derived.Test.YtfmpdgeiodnnfaaGreatDoorQ3
set_option maxRecDepth 100000
set_option maxHeartbeats 40000000
set_option linter.all false
namespace Go.Proofs.YtfmpdgeiodnnfaaGreatDoor
open Go Go.ax
noncomputable section
variable (Cl:bX) (n:Nat)
abbrev RR:=List (List D)
abbrev BB:=List UInt8
abbrev iC (n:Int):C:=.d (.int .i64 n)
abbrev bC (b:Bool):C:=.d (.bool b)
abbrev sC (s:List UInt8):C:=.d (.str s)
abbrev lC (t:Tag) (z:Nat) (r:List (List D)):C:=.d (.sl t z r)
abbrev pE:V:=.one (.ptr (.e 0) 0 0)
abbrev ao (n:Int):Int:=IntKind.i64.wrap n
abbrev w8 (n:Int):Int:=IntKind.u8.wrap n
abbrev iP (n:Int):Int:=IntKind.u64.wrap n
abbrev OR:=Option (V×List (List C))
abbrev rT:OR:=some (.one (.d (.bool true)),[])
abbrev rF:OR:=some (.one (.d (.bool false)),[])
def iR (ds:List DS) (c n:Nat) (L:RR) (x:Int) (K:au ds→OR):OR:=aH (cm x) fun i=>rA ds c n L i K
def iV (ds:List DS) (c n:Nat) (L:RR) (x:Int) (K:au ds→OR):OR:=aH (cm x) fun i=>gd (decide (i < L.length)) (aH L[0+i]? fun o=>gd (decide (c+n≤o.length)) (cw ds (List.take n (List.drop c o)) K))
@[simp] abbrev zM {A:Type}:Tag→(Bool→A)→A→A
 | .im b,f,_=>f b
 | .own,_,g=>g
@[simp] abbrev zZ {R:Type}:Tag→(Tag→Option R)→Option R
 | .im b,f=>f (.im b)
 | .own,f=>f .own
@[simp] abbrev zI:Tag→(ds:List DS)→Nat→Nat→RR→Int→(au ds→OR)→OR
 | .im _=>iR
 | .own=>iV
@[simp] abbrev zB:Tag→Bool
 | .im b=>b
 | .own=>false
@[simp] abbrev zW:Tag→RR→RR
 | .im _,l=>l
 | .own,l=>aV (whole l)
@[simp] abbrev zR:Tag→RR→RR
 | .im _,l=>l
 | .own,l=>aV l
@[simp] abbrev zO:Tag→Bool→OR→OR
 | .im _,_,K=>K
 | .own,b,K=>gd b K
@[simp] abbrev rO (l k:Nat):Bool:=l==l&&true&&decide ((l+1) * k≤140737488355328)
@[simp] abbrev rL (l:Nat):Bool:=decide (0+l≤l)
abbrev rI (x:Int):OR:=some (.one (iC x),[])
abbrev rS (x:BB):OR:=some (.one (sC x),[])
def sE (n:Nat) (x:C):Key×mV:=(.s n,⟨.one x,0⟩)
def bZ (r:aI) (g:Nat) (ds:List DS) (p:au ds):St:=(.r r,⟨fy ds.length,g⟩)::Bj r 0 (bx ds p)
def T (n:Nat):bX:=nN pT Aw n
theorem evT {f:Nat} {m:Nat} {vs:List V} {bs:List (List C)} {y:OR} {r:V×List (List C)} (h:y=some r) (ht:(sW ST.fns f).isSome=true:=by kernel_rfl) (hb:EF (ST.an f) (T m) m (ST.k f) vs bs=y:=by kernel_rfl):T (m+1) f vs bs=some r:=by
 show nN pT Aw (m+1) f vs bs=some r
 have e:pT f=some (ST.k f).fn:=by
  obtain ⟨x,hx⟩:=yS.1 ht
  simp only [pT,jG.pT,hx]
 simp only [nN,e]
 exact X3 (hb.trans h)
abbrev Ev (x o:OR):Prop:=∀r,x=some r→o=some r
theorem aW {f m:Nat} {vs:List V} {bs:List (List C)} {y:OR} (ht:(sW ST.fns f).isSome=true:=by kernel_rfl) (hb:EF (ST.an f) (T m) m (ST.k f) vs bs=y:=by kernel_rfl):Ev y (T (m+1) f vs bs):=fun _ h=>evT h ht hb
attribute [irreducible] T
abbrev c7:List DS:=[.im 3,.im 2,.im 4]
abbrev eN:List DS:=[.int .i64,.int .i64,.int .i64]
abbrev eB:List DS:=[.int .i64,.str,.str,.str,.str,.int .i64,.im 1,.im 3,.im 3,.int .i64]
abbrev DG:List DS:=[.im 3,.own 2,.im 4]
abbrev dW:List DS:=[.str,.im 1,.im 3]
abbrev nD:List DS:=[.str,.im 3]
abbrev ak:List DS:=[.tg 1,.int .i64]
abbrev sh7:List DS:=[.im 3,.im 2,.own 4]
abbrev fx:List DS:=[.str,.im 3,.im 6,.im 10]
abbrev bm:List DS:=[.bt 82,.tg 1]
abbrev yC:List DS:=[.bt 82,.dead]
abbrev jO:List DS:=[.lq 1000000000000 [(999999,42),(999999,43)]]
abbrev la:List DS:=[.lq 1000000000000 [(999999,47)]]
abbrev uN:List DS:=[.str,.tg 3]
abbrev lg:List DS:=[.str,.str,.im 4]
abbrev jB:List DS:=[.int .i64,.str,.im 4]
abbrev apD:List DS:=[.ptr 0 0,.im 3,.str,.im 3,.im 6,.im 10,.str,.im 2,.int .i64,.int .i64,.int .i64]
abbrev apE:List DS:=[.ptr 0 0,.im 3,.str,.tg 3,.tg 6,.tg 10,.str,.im 2,.int .i64,.int .i64,.int .i64]
abbrev apF:List DS:=[.ptr 0 0,.im 3,.str,.tg 3,.tg 6,.own 10,.str,.im 2,.int .i64,.int .i64,.int .i64]
abbrev aR:List DS:=[.ptr 1 0,.im 3,.str,.tg 3,.tg 6,.tg 10,.str,.im 2,.int .i64,.int .i64,.int .i64]
abbrev adq:List DS:=[.ptr 1 0,.im 3,.str,.tg 3,.own 6,.tg 10,.str,.im 2,.int .i64,.int .i64,.int .i64]
abbrev adr:List DS:=[.ptr 1 0,.im 3,.str,.tg 3,.tg 6,.own 10,.str,.im 2,.int .i64,.int .i64,.int .i64]
abbrev DE:List DS:=[.str,.int .i64,.str]
abbrev j9:List DS:=[.tg 3,.tg 2,.tg 4]
abbrev cd:List DS:=[.int .i64]
abbrev ka:List DS:=[.int .i64,.str]
abbrev DF:List DS:=[.str,.int .i64,.str,.int .i64]
abbrev kA:List DS:=[.lq 67 [(0,0),(1,0),(2,0)]]
abbrev MD:List DS:=[.int .i64,.str,.int .i64,.str,.int .i64,.int .i64]
abbrev bu:List DS:=[.str,.tg 1,.tg 3,.str,.tg 1]
abbrev apG:List DS:=[.str,.own 3]
abbrev apH:List DS:=[.int .i64,.str,.str,.str,.str,.int .i64,.im 1,.own 3,.im 3,.int .i64]
abbrev apI:List DS:=[.int .i64,.str,.str,.str,.str,.int .i64,.tg 1,.tg 3,.tg 3,.int .i64]
abbrev uO:List DS:=[.str,.str,.int .i64]
abbrev ads:List DS:=[.str,.str,.tg 4]
abbrev apJ:List DS:=[.int .i64,.str,.tg 4]
abbrev nB:List DS:=[.str,.tg 1,.tg 3]
abbrev apK:List DS:=[.int .i64,.str,.own 4]
abbrev AJ:List DS:=[.str,.str,.im 1]
abbrev nC:List DS:=[.lq 155 [(0,0),(1,0),(2,0)]]
abbrev tj:List DS:=[.lq 203 [(0,0),(1,0),(2,0)]]
abbrev bj:RS:=(.val (.one (.bool)) [])
abbrev oc:RS:=(.val (.agg c7) [])
abbrev fw:RS:=(.val (.one (.str)) [])
abbrev dv:RS:=(.val (.agg eN) [])
abbrev rs4:RS:=(.val (.one (.ptr 0 0)) [ak])
abbrev rs5:RS:=(.val (.agg nD) [ak])
abbrev Hd:RS:=(.aq [(.one (.im 2)),(.one (.int .i64)),(.one (.int .i64))] [])
abbrev od:RS:=(.val (.agg fx) [ak])
abbrev Tz:RS:=(.val (.one (.im 3)) [ak])
abbrev TA:RS:=(.aq [(.one (.int .i64)),.fj] [bm])
abbrev j7:RS:=(.aq [] [bm])
abbrev Ty:RS:=(.val (.one (.str)) [yC])
abbrev Mw:RS:=(.val (.agg eN) [c7])
abbrev Mx:RS:=(.val (.agg eN) [c7,jO])
abbrev My:RS:=(.val (.agg eN) [c7,la])
abbrev apm:RS:=(.val (.one (.lq 39 [(0,0),(1,0)])) [c7,jO])
abbrev apn:RS:=(.val (.one (.lq 39 [(0,0),(1,0)])) [c7,la])
abbrev ac0:RS:=(.val (.one (.int .i64)) [ak])
abbrev dh:RS:=(.val (.one (.im 1)) [])
abbrev apo:RS:=(.val (.one (.im 4)) [ak])
abbrev yw:RS:=(.val (.agg dW) [ak])
abbrev yx:RS:=(.aq [(.agg nD),(.one (.int .i64))] [])
abbrev uJ:RS:=(.val (.one (.str)) [aR,ak])
abbrev Hb:RS:=(.val (.agg eB) [])
abbrev pR:RS:=(.val (.one (.int .i64)) [adq,ak])
abbrev AG:RS:=(.val (.one (.int .i64)) [adr,ak])
abbrev lG:RS:=(.aq [] [aR,ak])
abbrev iM:RS:=(.val (.one (.int .i64)) [])
abbrev ac1:RS:=(.val (.agg ka) [ak])
abbrev apq:RS:=(.val (.agg nD) [])
abbrev Hc:RS:=(.val (.one (.bool)) [[.tg 6],[.tg 1],kA])
abbrev oZ:RS:=(.aq [(.one (.int .i64)),(.one (.int .i64))] [bu])
abbrev ti:RS:=(.aq [(.agg jB),(.one (.int .i64))] [bu])
abbrev uK:RS:=(.val (.one (.int .i64)) [aR,ak])
abbrev yz:RS:=(.aq [(.agg ka),(.one (.im 1)),(.one (.bool))] [bu])
abbrev DA:RS:=(.aq [(.one (.int .i64)),(.one (.str)),(.one (.int .i64))] [bu])
abbrev AH:RS:=(.aq [(.one (.im 1)),(.one (.bool))] [bu])
abbrev ac2:RS:=(.aq [(.agg dW),(.one (.str))] [aR,ak])
abbrev qN:RS:=(.aq [] [nC,[.tg 6],[.tg 1]])
abbrev DB:RS:=(.aq [] [tj,[.tg 6],[.tg 1]])
abbrev ac3:RS:=(.aq [] [])
abbrev c9 K:=(aG bj (Cl 9 [] []) K:OR)
abbrev Wv h0 h1 K:=(aG oc (Cl 10 [.one (lC (.im h0) 1 h1)] []) K:OR)
abbrev Ep h0 h1 h2 h3 h4 h5 K:=(aG fw (Cl 11 [.agg [lC (.im h0) 3 h1,lC (.im h2) 2 h3,lC (.im h4) 4 h5]] []) K:OR)
abbrev c12 h0 h1 h2 h3 h4 h5 K:=(aG dv (Cl 12 [.agg [lC (.im h0) 3 h1,lC (.im h2) 2 h3,lC (.im h4) 4 h5]] []) K:OR)
abbrev N' h0 h1 h2 h3 h4 K:=(aG fw (Cl 19 [.agg [sC h0,lC (.im h1) 1 h2,lC (.im h3) 3 h4]] []) K:OR)
abbrev c21 h0 h1 h2 K:=(aG fw (Cl 21 [.agg [sC h0,lC (.im h1) 3 h2]] []) K:OR)
abbrev c28 h0 h1 K:=(aG rs4 (Cl 28 [.one (lC (.im h0) 1 h1)] []) K:OR)
abbrev c27 h0 h1 h2 h3 K:=(aG rs5 (Cl 27 [pE,.one (sC h0),.one (lC (.im h1) 1 h2)] [bx ak h3]) K:OR)
abbrev w7 h0 h1 h2 K:=(aG fw (Cl 15 [.one (lC (.im h0) 6 h1),.one (iC h2)] []) K:OR)
abbrev Bn h0 h1 K:=(aG fw (Cl 17 [.agg [iC h0,sC h1]] []) K:OR)
abbrev Bo h0 h1 h2 h3 h4 K:=(aG Hd (Cl 32 [.agg [sC h0,lC (.im h1) 1 h2,lC (.im h3) 3 h4]] []) K:OR)
abbrev Oe h0 h1 h2 K:=(aG od (Cl 34 [pE,.one (lC (.im h0) 3 h1)] [bx ak h2]) K:OR)
abbrev Od h0 h1 h2 h3 h4 h5 h6 h7 h8 h9 dk gO K:=(aG od (Cl 33 [pE,.one (lC (.im h0) 3 h1),.agg [sC h2,lC (.im h3) 1 h4,lC (.im h5) 3 h6],.one (lC (.im h7) 2 h8),.one (iC h9),.one (sC dk)] [bx ak gO]) K:OR)
abbrev c31 h0 K:=(aG Tz (Cl 31 [pE] [bx ak h0]) K:OR)
abbrev WS h0 h1 h2 h3 h4 h5 h6 h7 K:=(aG j7 (Cl 36 [pE,.agg [sC h0,lC (.im h1) 3 h2,lC (.im h3) 6 h4,lC (.im h5) 10 h6]] [bx bm h7]) K:OR)
abbrev c37 h0 K:=(aG Ty (Cl 37 [pE] [bx bm h0]) K:OR)
abbrev du h0 h1 K:=(aG TA (Cl 35 [pE,.one (sC h0)] [bx bm h1]) K:OR)
abbrev c40 h0 K:=(aG Mw (Cl 40 [pE] [bx c7 h0]) K:OR)
abbrev c39 h0 h1 K:=(aG Mx (Cl 39 [pE,.one (.ptr (.e 1) 0 0)] [bx c7 h0,bx jO h1]) K:OR)
abbrev c44 h0 K:=(aG Mw (Cl 44 [pE] [bx c7 h0]) K:OR)
abbrev afB h0 h1 K:=(aG My (Cl 39 [pE,.one (.ptr (.e 1) 0 0)] [bx c7 h0,bx la h1]) K:OR)
abbrev c38 h0 K:=(aG apm (Cl 38 [.one (.fn 1000000000000 [] [.fn 42 [] [],.fn 43 [] []]),pE] [bx c7 h0]) K:OR)
abbrev afA h0 K:=(aG apn (Cl 38 [.one (.fn 1000000000000 [] [.fn 47 [] []]),pE] [bx c7 h0]) K:OR)
abbrev dG h0 h1 K:=(aG ac0 (Cl 73 [pE,.one (iC h0)] [bx ak h1]) K:OR)
abbrev Og K:=(aG dh (Cl 48 [] []) K:OR)
abbrev WZ h0 h1 h2 h3 K:=(aG apo (Cl 74 [pE,.one (lC (.im h0) 1 h1),.one (iC h2)] [bx ak h3]) K:OR)
abbrev Et h0 K:=(aG fw (Cl 57 [.one (iC h0)] []) K:OR)
abbrev zc h0 h1 K:=(aG fw (Cl 58 [.one (lC (.im h0) 4 h1)] []) K:OR)
abbrev WX h0 h1 h2 h3 h4 K:=(aG bj (Cl 55 [.agg [sC h0,lC (.im h1) 1 h2,lC (.im h3) 3 h4]] []) K:OR)
abbrev ow h0 h1 h2 K:=(aG fw (Cl 56 [.one (lC (.im h0) 1 h1),.one (sC h2)] []) K:OR)
abbrev c53 h0 h1 h2 K:=(aG bj (Cl 53 [.agg [sC h0,lC (.im h1) 3 h2]] []) K:OR)
abbrev fF h0 K:=(aG bj (Cl 62 [.one (sC h0)] []) K:OR)
abbrev Er h0 h1 h2 K:=(aG bj (Cl 25 [.one (lC (.im h0) 6 h1),.one (iC h2)] []) K:OR)
abbrev ki h0 h1 h2 h3 K:=(aG j7 (Cl 50 [pE,.one (lC (.im h0) 6 h1),.one (iC h2)] [bx bm h3]) K:OR)
abbrev c80 h0 h1 h2 h3 K:=(aG yw (Cl 80 [pE,.one (sC h0),.one (lC (.im h1) 1 h2)] [bx ak h3]) K:OR)
abbrev W0 h0 h1 h2 h3 h4 K:=(aG dh (Cl 81 [.agg [sC h0,lC (.im h1) 1 h2,lC (.im h3) 3 h4]] []) K:OR)
abbrev Oj h0 h1 h2 h3 h4 h5 K:=(aG yx (Cl 82 [.agg [sC h0,lC (.im h1) 1 h2,lC (.im h3) 3 h4],.one (sC h5)] []) K:OR)
abbrev Oc h0 h1 h2 h3 h4 K:=(aG bj (Cl 26 [.agg [sC h0,lC (.im h1) 1 h2,lC (.im h3) 3 h4]] []) K:OR)
abbrev c85 h0 h1 h2 h3 h4 h5 h6 h7 K:=(aG uJ (Cl 85 [pE,.agg [sC h0,lC (.im h1) 1 h2,lC (.im h3) 3 h4],.one (sC h5)] [bx aR h6,bx ak h7]) K:OR)
abbrev kj h0 K:=(aG Hb (Cl 86 [.one (iC h0)] []) K:OR)
abbrev Bp h0 h1 h2 h3 h4 h5 K:=(aG fw (Cl 83 [.agg [sC h0,lC (.im h1) 1 h2,lC (.im h3) 3 h4],.one (sC h5)] []) K:OR)
abbrev c87 h0 h1 h2 K:=(aG pR (Cl 87 [pE,.one (sC h0)] [bx aR h1,bx ak h2]) K:OR)
abbrev px h0 h1 h2 K:=(aG pR (Cl 88 [pE,.one (iC h0)] [bx aR h1,bx ak h2]) K:OR)
abbrev qX h0 h1 h2 h3 h4 h5 h6 h7 h8 h9 dk gO iH sB sD K:=(aG AG (Cl 89 [pE,.agg [iC h0,sC h1,sC h2,sC h3,sC h4,iC h5,lC (.im h6) 1 h7,lC (.im h8) 3 h9,lC (.im dk) 3 gO,iC iH]] [bx aR sB,bx ak sD]) K:OR)
abbrev qY h0 h1 h2 h3 h4 h5 h6 h7 h8 h9 dk gO iH sB sD K:=(aG AG (Cl 90 [pE,.agg [iC h0,sC h1,sC h2,sC h3,sC h4,iC h5,lC (.im h6) 1 h7,lC (.im h8) 3 h9,lC (.im dk) 3 gO,iC iH]] [bx aR sB,bx ak sD]) K:OR)
abbrev Eu h0 h1 h2 h3 K:=(aG lG (Cl 84 [pE,.one (iC h0),.one (iC h1)] [bx aR h2,bx ak h3]) K:OR)
abbrev c91 h0 K:=(aG j7 (Cl 91 [pE] [bx bm h0]) K:OR)
abbrev ik h0 h1 h2 K:=(aG j7 (Cl 92 [pE,.one (iC h0),.one (sC h1)] [bx bm h2]) K:OR)
abbrev c93 h0 h1 h2 h3 h4 h5 h6 h7 h8 h9 K:=(aG j7 (Cl 93 [pE,.agg [sC h0,lC (.im h1) 3 h2,lC (.im h3) 6 h4,lC (.im h5) 10 h6],.one (iC h7),.one (iC h8)] [bx bm h9]) K:OR)
abbrev WT h0 h1 h2 h3 h4 h5 K:=(aG dv (Cl 41 [.agg [lC (.im h0) 3 h1,lC (.im h2) 2 h3,lC (.im h4) 4 h5]] []) K:OR)
abbrev WU h0 h1 h2 h3 h4 h5 h6 K:=(aG dv (Cl 42 [.agg [lC (.im h0) 3 h1,lC (.im h2) 2 h3,lC (.im h4) 4 h5],.one (iC h6)] []) K:OR)
abbrev WV h0 h1 h2 h3 h4 h5 h6 K:=(aG dv (Cl 43 [.agg [lC (.im h0) 3 h1,lC (.im h2) 2 h3,lC (.im h4) 4 h5],.one (iC h6)] []) K:OR)
abbrev Es h0 h1 h2 h3 h4 h5 h6 K:=(aG iM (Cl 45 [.agg [lC (.im h0) 3 h1,lC (.im h2) 2 h3,lC (.im h4) 4 h5],.one (sC h6)] []) K:OR)
abbrev c46 h0 h1 h2 K:=(aG dv (Cl 46 [.one (iC h0),.one (iC h1),.one (iC h2)] []) K:OR)
abbrev WW h0 h1 h2 h3 h4 h5 h6 K:=(aG dv (Cl 47 [.agg [lC (.im h0) 3 h1,lC (.im h2) 2 h3,lC (.im h4) 4 h5],.one (iC h6)] []) K:OR)
abbrev c49 K:=(aG dh (Cl 49 [] []) K:OR)
abbrev N5 h0 h1 h2 K:=(aG ac1 (Cl 128 [pE,.one (lC (.im h0) 1 h1)] [bx ak h2]) K:OR)
abbrev afx h0 h1 h2 h3 h4 K:=(aG apq (Cl 111 [.agg [sC h0,lC (.im h1) 1 h2,lC (.im h3) 3 h4]] []) K:OR)
abbrev zb h0 h1 h2 K:=(aG bj (Cl 110 [.one (lC (.im h0) 1 h1),.one (sC h2)] []) K:OR)
abbrev u9 h0 h1 K:=(aG bj (Cl 95 [.one (lC (.im h0) 1 h1)] []) K:OR)
abbrev Wy h0 h1 K:=(aG j7 (Cl 112 [pE,.one (iC h0)] [bx bm h1]) K:OR)
abbrev Wx h0 h1 h2 K:=(aG bj (Cl 108 [.one (lC (.im h0) 4 h1),.one (iC h2)] []) K:OR)
abbrev c116 h0 K:=(aG bj (Cl 116 [.one (sC h0)] []) K:OR)
abbrev Ww h0 h1 h2 h3 h4 h5 K:=(aG fw (Cl 102 [.agg [iC h0,sC h1,iC h2,sC h3,iC h4,iC h5]] []) K:OR)
abbrev Bl h0 K:=(aG fw (Cl 103 [.one (iC h0)] []) K:OR)
abbrev N4 h0 K:=(aG fw (Cl 104 [.one (iC h0)] []) K:OR)
abbrev Wz h0 h1 h2 h3 K:=(aG yw (Cl 137 [pE,.one (sC h0),.one (lC (.im h1) 1 h2)] [bx ak h3]) K:OR)
abbrev c138 h0 h1 h2 h3 h4 K:=(aG yw (Cl 138 [pE,.one (sC h0),.one (iC h1),.one (lC (.im h2) 1 h3)] [bx ak h4]) K:OR)
abbrev Oi h0 h1 h2 K:=(aG bj (Cl 71 [.one (lC (.im h0) 1 h1),.one (sC h2)] []) K:OR)
abbrev c72 h0 h1 h2 K:=(aG bj (Cl 72 [.one (lC (.im h0) 4 h1),.one (iC h2)] []) K:OR)
abbrev Oh h0 K:=(aG bj (Cl 64 [.one (sC h0)] []) K:OR)
abbrev c70 h0 h1 K:=(aG bj (Cl 70 [.one (lC (.im h0) 1 h1)] []) K:OR)
abbrev N7 h0 h1 h2 K:=(aG ti (Cl 140 [pE,.one (lC (.im h0) 1 h1)] [bx bu h2]) K:OR)
abbrev c139 h0 h1 h2 K:=(aG oZ (Cl 139 [pE,.one (lC (.im h0) 1 h1)] [bx bu h2]) K:OR)
abbrev c146 h0 h1 K:=(aG uJ (Cl 146 [pE] [bx aR h0,bx ak h1]) K:OR)
abbrev w6 h0 h1 h2 h3 h4 h5 h6 h7 K:=(aG pR (Cl 147 [pE,.agg [iC h0,sC h1,iC h2,sC h3,iC h4,iC h5]] [bx aR h6,bx ak h7]) K:OR)
abbrev c145 h0 h1 h2 h3 h4 K:=(aG uK (Cl 145 [pE,.one (iC h0),.one (iC h1),.one (iC h2)] [bx aR h3,bx ak h4]) K:OR)
abbrev c141 h0 h1 h2 K:=(aG uK (Cl 141 [pE,.one (bC h0)] [bx aR h1,bx ak h2]) K:OR)
abbrev WA h0 h1 K:=(aG lG (Cl 142 [pE] [bx aR h0,bx ak h1]) K:OR)
abbrev c143 h0 h1 h2 h3 K:=(aG lG (Cl 143 [pE,.one (iC h0),.one (iC h1)] [bx aR h2,bx ak h3]) K:OR)
abbrev sk h0 h1 h2 h3 h4 K:=(aG pR (Cl 144 [pE,.one (iC h0),.one (iC h1),.one (iC h2)] [bx aR h3,bx ak h4]) K:OR)
abbrev afy h0 h1 K:=(aG fw (Cl 149 [.one (sC h0),.one (iC h1)] []) K:OR)
abbrev Bm h0 h1 h2 h3 h4 h5 h6 h7 h8 K:=(aG fw (Cl 150 [.agg [sC h0,lC (.im h1) 3 h2,lC (.im h3) 6 h4,lC (.im h5) 10 h6],.one (lC (.im h7) 1 h8)] []) K:OR)
abbrev WC h0 h1 h2 h3 h4 h5 h6 h7 h8 h9 dk gO iH sB sD ET EU EV zv Py K:=(aG fw (Cl 151 [.agg [sC h0,lC (.im h1) 3 h2,lC (.im h3) 6 h4,lC (.im h5) 10 h6],.agg [iC h7,sC h8,sC h9,sC dk,sC gO,iC iH,lC (.im sB) 1 sD,lC (.im ET) 3 EU,lC (.im EV) 3 zv,iC Py]] []) K:OR)
abbrev Ok h0 h1 K:=(aG bj (Cl 94 [.agg [iC h0,sC h1]] []) K:OR)
abbrev W2 h0 h1 h2 h3 h4 h5 h6 h7 h8 h9 dk gO iH K:=(aG bj (Cl 96 [.agg [iC h0,sC h1,sC h2,sC h3,sC h4,iC h5,lC (.im h6) 1 h7,lC (.im h8) 3 h9,lC (.im dk) 3 gO,iC iH]] []) K:OR)
abbrev W3 h0 h1 h2 K:=(aG dh (Cl 99 [.one (lC (.im h0) 6 h1),.one (iC h2)] []) K:OR)
abbrev Ol h0 h1 h2 h3 h4 h5 h6 h7 h8 h9 dk gO iH K:=(aG dh (Cl 98 [.agg [iC h0,sC h1,sC h2,sC h3,sC h4,iC h5,lC (.im h6) 1 h7,lC (.im h8) 3 h9,lC (.im dk) 3 gO,iC iH]] []) K:OR)
abbrev Bq h0 h1 h2 h3 h4 h5 h6 h7 h8 h9 dk gO iH K:=(aG dh (Cl 97 [.agg [iC h0,sC h1,sC h2,sC h3,sC h4,iC h5,lC (.im h6) 1 h7,lC (.im h8) 3 h9,lC (.im dk) 3 gO,iC iH]] []) K:OR)
abbrev Ik h0 h1 h2 h3 h4 h5 h6 h7 h8 h9 dk gO iH sB sD ET EU EV zv Py Pz h21 h22 h23 cY h25 h26 h27 K:=(aG iM (Cl 100 [.agg [lC (.im h0) 3 h1,lC (.im h2) 2 h3,lC (.im h4) 4 h5],.agg [sC h6,lC (.im h7) 3 h8,lC (.im h9) 6 dk,lC (.im gO) 10 iH],.agg [iC sB,sC sD,sC ET,sC EU,sC EV,iC zv,lC (.im Py) 1 Pz,lC (.im h21) 3 h22,lC (.im h23) 3 cY,iC h25],.one (lC (.im h26) 1 h27)] []) K:OR)
abbrev za h0 h1 h2 h3 h4 h5 h6 h7 h8 h9 dk gO iH K:=(aG dh (Cl 101 [.agg [iC h0,sC h1,sC h2,sC h3,sC h4,iC h5,lC (.im h6) 1 h7,lC (.im h8) 3 h9,lC (.im dk) 3 gO,iC iH]] []) K:OR)
abbrev N8 h0 K:=(aG ac1 (Cl 184 [pE] [bx ak h0]) K:OR)
abbrev c152 h0 h1 h2 K:=(aG iM (Cl 152 [.one (lC (.im h0) 1 h1),.one (sC h2)] []) K:OR)
abbrev afz h0 h1 K:=(aG bj (Cl 165 [.agg [iC h0,sC h1]] []) K:OR)
abbrev c68 h0 K:=(aG iM (Cl 68 [.one (iC h0)] []) K:OR)
abbrev WY h0 h1 h2 h3 h4 h5 K:=(aG bj (Cl 69 [.agg [iC h0,sC h1,iC h2,sC h3,iC h4,iC h5]] []) K:OR)
abbrev c159 h0 h1 K:=(aG fw (Cl 159 [.one (iC h0),.one (iC h1)] []) K:OR)
abbrev c160 h0 K:=(aG fw (Cl 160 [.one (bC h0)] []) K:OR)
abbrev WG h0 K:=(aG fw (Cl 161 [.one (sC h0)] []) K:OR)
abbrev WI h0 h1 h2 h3 h4 K:=(aG yw (Cl 188 [pE,.one (sC h0),.one (iC h1),.one (lC (.im h2) 1 h3)] [bx ak h4]) K:OR)
abbrev c54 h0 h1 K:=(aG bj (Cl 54 [.agg [iC h0,sC h1]] []) K:OR)
abbrev WL h0 h1 h2 h3 K:=(aG bj (Cl 192 [.one (lC (.im h0) 1 h1),.one (lC (.im h2) 1 h3)] []) K:OR)
abbrev WJ h0 h1 h2 h3 h4 h5 h6 K:=(aG bj (Cl 191 [.agg [sC h0,lC (.im h1) 1 h2,lC (.im h3) 3 h4],.one (sC h5),.one (iC h6)] []) K:OR)
abbrev N9 h0 h1 h2 h3 h4 h5 h6 h7 K:=(aG dh (Cl 189 [.agg [sC h0,lC (.im h1) 1 h2,lC (.im h3) 3 h4],.one (sC h5),.one (lC (.im h6) 1 h7)] []) K:OR)
abbrev Oa h0 h1 h2 h3 h4 h5 h6 h7 K:=(aG dh (Cl 190 [.agg [sC h0,lC (.im h1) 1 h2,lC (.im h3) 3 h4],.one (sC h5),.one (lC (.im h6) 1 h7)] []) K:OR)
abbrev Im h0 h1 h2 h3 K:=(aG yz (Cl 195 [pE,.one (lC (.im h0) 1 h1),.one (sC h2)] [bx bu h3]) K:OR)
abbrev c193 h0 h1 h2 K:=(aG DA (Cl 193 [pE,.one (lC (.im h0) 1 h1)] [bx bu h2]) K:OR)
abbrev c194 h0 h1 h2 K:=(aG AH (Cl 194 [pE,.one (lC (.im h0) 1 h1)] [bx bu h2]) K:OR)
abbrev Il h0 K:=(aG fw (Cl 114 [.one (iC h0)] []) K:OR)
abbrev c196 h0 h1 K:=(aG pR (Cl 196 [pE] [bx aR h0,bx ak h1]) K:OR)
abbrev WM h0 h1 h2 h3 h4 K:=(aG lG (Cl 197 [pE,.one (sC h0),.agg [iC h1,sC h2]] [bx aR h3,bx ak h4]) K:OR)
abbrev c198 h0 h1 h2 K:=(aG ac2 (Cl 198 [pE,.one (sC h0)] [bx aR h1,bx ak h2]) K:OR)
abbrev WN h0 h1 h2 K:=(aG pR (Cl 199 [pE,.one (iC h0)] [bx aR h1,bx ak h2]) K:OR)
abbrev c154 h0 h1 h2 h3 h4 h5 h6 h7 h8 h9 dk gO iH K:=(aG bj (Cl 154 [.agg [iC h0,sC h1,sC h2,sC h3,sC h4,iC h5,lC (.im h6) 1 h7,lC (.im h8) 3 h9,lC (.im dk) 3 gO,iC iH]] []) K:OR)
abbrev WD h0 h1 h2 h3 h4 h5 h6 h7 h8 h9 dk gO iH K:=(aG Hb (Cl 153 [.agg [iC h0,sC h1,sC h2,sC h3,sC h4,iC h5,lC (.im h6) 1 h7,lC (.im h8) 3 h9,lC (.im dk) 3 gO,iC iH]] []) K:OR)
abbrev N6 h0 K:=(aG bj (Cl 132 [.one (iC h0)] []) K:OR)
abbrev c157 h0 h1 h2 h3 h4 h5 h6 h7 K:=(aG bj (Cl 157 [.agg [lC (.im h0) 3 h1,lC (.im h2) 2 h3,lC (.im h4) 4 h5],.one (sC h6),.one (iC h7)] []) K:OR)
abbrev WE h0 h1 h2 h3 h4 h5 h6 h7 h8 h9 dk gO iH sB sD ET EU EV zv K:=(aG bj (Cl 158 [.agg [lC (.im h0) 3 h1,lC (.im h2) 2 h3,lC (.im h4) 4 h5],.agg [iC h6,sC h7,sC h8,sC h9,sC dk,iC gO,lC (.im iH) 1 sB,lC (.im sD) 3 ET,lC (.im EU) 3 EV,iC zv]] []) K:OR)
abbrev c156 h0 h1 h2 K:=(aG dh (Cl 156 [.one (lC (.im h0) 6 h1),.one (iC h2)] []) K:OR)
abbrev c206 h0 K:=(aG fw (Cl 206 [.one (bC h0)] []) K:OR)
abbrev Io h0 h1 h2 h3 h4 K:=(aG bj (Cl 223 [.agg [sC h0,sC h1,lC (.im h2) 4 h3],.one (sC h4)] []) K:OR)
abbrev c218 h0 h1 h2 K:=(aG dh (Cl 218 [.one (lC (.im h0) 1 h1),.one (sC h2)] []) K:OR)
abbrev Ob h0 h1 h2 K:=(aG iM (Cl 224 [.one (lC (.im h0) 4 h1),.one (sC h2)] []) K:OR)
abbrev WO h0 h1 K:=(aG ac3 (Cl 204 [.one (lC (.im h0) 1 h1)] []) K:OR)
abbrev WQ h0 h1 K:=(aG dh (Cl 205 [.one (lC (.im h0) 1 h1)] []) K:OR)
abbrev c236 h0 h1 h2 K:=(aG dh (Cl 236 [.one (lC (.im h0) 1 h1),.one (sC h2)] []) K:OR)
def CL m0 a0 a1 a2 a3:=ST.hd 7 0 Cl n [] [m0] (bZ (.l 5) 1 DG a0++[sE 5 (.ptr (.l 5) 1 0),sE 8 (sC a1),sE 9 (iC a2),sE 10 (iC a3)])
def uv m0 m1 a0 a1 a2 a3:=ST.hd 7 1 Cl n [] [m0,m1] (bZ (.l 5) 1 DG a0++[sE 5 (.ptr (.l 5) 1 0),sE 8 (sC a1),sE 9 (iC a2),sE 10 (iC a3)])
def F4 m2 a0 a1 a2:=ST.hd 7 2 Cl n [] [m2] (bZ (.l 5) 1 DG a0++[sE 5 (.ptr (.l 5) 1 0),sE 6 (sC a1),sE 8 (sC a2)])
def J8 m3 a0 a1 a2:=ST.hd 7 3 Cl n [] [m3] (bZ (.l 5) 1 DG a0++[sE 5 (.ptr (.l 5) 1 0),sE 6 (sC a1),sE 7 (iC a2)])
theorem Rp {Cl n m0 a0 a1 a2 a3}:CL Cl n (m0+1) a0 a1 a2 a3=bif decide (a3 < ae a1.length) then aH (cm a3) fun o14=>aH (a1[o14]?) fun s5=>bif ae s5.toNat==125 then aH (cm (ao (a3 - 1))) fun pM=>aH (a1[pM]?) fun o17=>bif ae o17.toNat==10 then uv Cl n m0 n a0 a1 (ao (a2+1)) a3 else uv Cl n m0 n a0 a1 a2 a3 else uv Cl n m0 n a0 a1 a2 a3 else some (.one (bC (a2==ae a0.2.2.1.2.length)),[]):=by kernel_rfl
theorem aam {Cl n m0 m1 a0 a1 a2 a3}:uv Cl n m0 (m1+1) a0 a1 a2 a3=CL Cl n m0 a0 a1 a2 (ao (a3+1)):=by kernel_rfl
theorem akW {Cl n m2 a0 a1 a2}:F4 Cl n (m2+1) a0 a1 a2=CL Cl n n a0 a2 0 (ae a1.length):=by kernel_rfl
theorem akX {Cl n m3 a0 a1 a2}:J8 Cl n (m3+1) a0 a1 a2=bif decide (a2 < ae a0.1.2.length) then iR dW 0 3 a0.1.2 a2 fun v8=>N' Cl v8.1 v8.2.1.1 v8.2.1.2 v8.2.2.1.1 v8.2.2.1.2 fun v9=>aN (a1.length+List.length v9.1) (J8 Cl n m3 a0 (a1++v9.1) (ao (a2+1))) else gd (decide (Int.toNat 0 < List.length a0.2.1)) (aH (a0.2.1[0+Int.toNat 0]?) fun GG=>gd (decide (0+2≤GG.length)) (cw nD (List.take 2 (List.drop 0 GG)) fun v11=>c21 Cl v11.1 v11.2.1.1 v11.2.1.2 fun v12=>aN (a1.length+List.length v12.1) (gd (rL (List.length a0.2.1)) (Ep Cl a0.1.1 a0.1.2 false (aV (whole a0.2.1)) a0.2.2.1.1 a0.2.2.1.2 fun aO=>bif decide (ae (List.length aO.1) < ae (a1++v12.1).length) then rF else gd (decide ((ae (a1++v12.1).length).toNat≤List.length aO.1)) (bif !List.take ((ae (a1++v12.1).length).toNat - 0) (List.drop 0 aO.1)==a1++v12.1 then rF else F4 Cl n n a0 (a1++v12.1) aO.1))))):=by kernel_rfl
theorem agr {m x0 x1 x2 x3}:Ev (c9 (T m) fun v0=>bif !v0.1 then rF else Wv (T m) x0 x1 fun v1=>c28 (T m) x2 x3 fun v2=>c27 (T m) [122,122] false [[.str [112,46,97]]] v2.2.1 fun v3=>c12 (T m) v1.1.1.1 v1.1.1.2 false [[.str v3.1.1,.sl (.im v3.1.2.1.1) 3 v3.1.2.1.2]] v1.1.2.2.1.1 v1.1.2.2.1.2 fun v4=>bif v4.1.1 != 0 then Ep (T m) v1.1.1.1 v1.1.1.2 false [[.str v3.1.1,.sl (.im v3.1.2.1.1) 3 v3.1.2.1.2]] v1.1.2.2.1.1 v1.1.2.2.1.2 fun v5=>some (.one (bC (v5.1==[])),[]) else J8 (T m) m m (v1.1.1,[[.str v3.1.1,.sl (.im v3.1.2.1.1) 3 v3.1.2.1.2]],v1.1.2.2.1,()) [] 0) (T (m+1) 7 [.one (lC (.im x0) 1 x1),.one (lC (.im x2) 1 x3)] []):=aW
theorem ags {m}:Ev (w7 (T m) false [[.int .i64 0,.str [120],.int .i64 0,.str [],.int .i64 (-1),.int .i64 (-1)],[.int .i64 1,.str [],.int .i64 (-1),.str [],.int .i64 (-1),.int .i64 (-1)],[.int .i64 6,.str [],.int .i64 0,.str [],.int .i64 0,.int .i64 1]] 2 fun v0=>bif v0.1==[40,120,32,43,32,45,49,41] then Ep (T m) true [] true [] false [[.str [109,97,105,110],.sl (.im true) 3 [],.sl (.im true) 6 [],.sl (.im false) 10 [[.int .i64 0,.str [],.str [],.str [],.str [],.int .i64 (-1),.sl (.im true) 1 [],.sl (.im true) 3 [],.sl (.im true) 3 [],.int .i64 (-1)]]]] fun v1=>bif v1.1==[112,114,111,99,32,109,97,105,110,40,41,32,123,10,32,32,115,116,111,112,10,125,10] then Bn (T m) 5 [112,46,97] fun v2=>some (.one (bC (v2.1==[99,104,97,110,32,112,46,97])),[]) else rF else rF) (T (m+1) 9 [] []):=aW
def F5 m0 a0 a1 a2 a3:=ST.hd 10 0 Cl n [] [m0] (bZ (.l 2) 1 c7 a0++[sE 2 (.ptr (.l 2) 1 0)]++bZ (.l 11) 1 ak a1++[sE 3 (.ptr (.l 11) 1 0)]++bZ (.l 4) 1 c7 a2++[sE 4 (.ptr (.l 4) 1 0),sE 5 (iC a3)])
def CM m0 a0 a1 a2 a3:=ST.hd 10 0 Cl n [] [m0] (bZ (.l 2) 1 c7 a0++[sE 2 (.ptr (.l 2) 1 0)]++bZ (.l 11) 1 ak a1++[sE 3 (.ptr (.l 11) 1 0)]++bZ (.l 4) 1 sh7 a2++[sE 4 (.ptr (.l 4) 1 0),sE 5 (iC a3)])
def F6 m0 m1 a0 a1 a2 a3 a4 a5 a6:=ST.hd 10 1 Cl n [] [m0,m1] (bZ (.l 2) 1 c7 a0++[sE 2 (.ptr (.l 2) 1 0)]++bZ (.l 11) 1 ak a1++[sE 3 (.ptr (.l 11) 1 0)]++bZ (.l 4) 1 c7 a2++[sE 4 (.ptr (.l 4) 1 0),sE 5 (iC a3),sE 6 (lC (.im a4) 2 a5),sE 9 (iC a6)])
def F7 m0 m1 a0 a1 a2 a3 a4 a5 a6:=ST.hd 10 1 Cl n [] [m0,m1] (bZ (.l 2) 1 c7 a0++[sE 2 (.ptr (.l 2) 1 0)]++bZ (.l 11) 1 ak a1++[sE 3 (.ptr (.l 11) 1 0)]++bZ (.l 4) 1 sh7 a2++[sE 4 (.ptr (.l 4) 1 0),sE 5 (iC a3),sE 6 (lC (.im a4) 2 a5),sE 9 (iC a6)])
theorem aap {Cl n m0 a0 a1 a2 a3}:F5 Cl n (m0+1) a0 a1 a2 a3=bif decide (a3 < ae a2.1.2.length) then iR dW 0 3 a2.1.2 a3 fun v4=>Bo Cl v4.1 v4.2.1.1 v4.2.1.2 v4.2.2.1.1 v4.2.2.1.2 fun v5=>F6 Cl n m0 n a0 a1 a2 a3 v5.1.1.1 v5.1.1.2 0 else Oe Cl a2.1.1 a2.1.2 a1 fun v6=>gd (a2.2.2.1.1&&true&&true) (some (.agg [lC (.im a2.1.1) 3 a2.1.2,lC (.im a2.2.1.1) 2 a2.2.1.2,lC (.im false) 4 [[.str v6.1.1,.sl (.im v6.1.2.1.1) 3 v6.1.2.1.2,.sl (.im v6.1.2.2.1.1) 6 v6.1.2.2.1.2,.sl (.im v6.1.2.2.2.1.1) 10 v6.1.2.2.2.1.2]]],[])):=by kernel_rfl
theorem aaq {Cl n m0 a0 a1 a2 a3}:CM Cl n (m0+1) a0 a1 a2 a3=bif decide (a3 < ae a2.1.2.length) then iR dW 0 3 a2.1.2 a3 fun aY=>Bo Cl aY.1 aY.2.1.1 aY.2.1.2 aY.2.2.1.1 aY.2.2.1.2 fun v24=>F7 Cl n m0 n a0 a1 a2 a3 v24.1.1.1 v24.1.1.2 0 else Oe Cl a2.1.1 a2.1.2 a1 fun eu=>gd (rO (List.length a2.2.2.1) 88) (gd ((a2.2.2.1++[[D.str [],D.sl (.im true) 3 [],D.sl (.im true) 6 [],D.sl (.im true) 10 []]].set 0 [D.str eu.1.1,D.sl (.im eu.1.2.1.1) 3 eu.1.2.1.2,D.sl (.im eu.1.2.2.1.1) 6 eu.1.2.2.1.2,D.sl (.im eu.1.2.2.2.1.1) 10 eu.1.2.2.2.1.2]).length==(a2.2.2.1++[[D.str [],D.sl (.im true) 3 [],D.sl (.im true) 6 [],D.sl (.im true) 10 []]].set 0 [D.str eu.1.1,D.sl (.im eu.1.2.1.1) 3 eu.1.2.1.2,D.sl (.im eu.1.2.2.1.1) 6 eu.1.2.2.1.2,D.sl (.im eu.1.2.2.2.1.1) 10 eu.1.2.2.2.1.2]).length && !(a2.2.2.1++[[D.str [],D.sl (.im true) 3 [],D.sl (.im true) 6 [],D.sl (.im true) 10 []]].set 0 [D.str eu.1.1,D.sl (.im eu.1.2.1.1) 3 eu.1.2.1.2,D.sl (.im eu.1.2.2.1.1) 6 eu.1.2.2.1.2,D.sl (.im eu.1.2.2.2.1.1) 10 eu.1.2.2.2.1.2]).isEmpty) (gd (rL ((a2.2.2.1++[[D.str [],D.sl (.im true) 3 [],D.sl (.im true) 6 [],D.sl (.im true) 10 []]].set 0 [D.str eu.1.1,D.sl (.im eu.1.2.1.1) 3 eu.1.2.1.2,D.sl (.im eu.1.2.2.1.1) 6 eu.1.2.2.1.2,D.sl (.im eu.1.2.2.2.1.1) 10 eu.1.2.2.2.1.2]).length)) (some (.agg [lC (.im a2.1.1) 3 a2.1.2,lC (.im a2.2.1.1) 2 a2.2.1.2,lC (.im false) 4 (aV (whole (a2.2.2.1++[[D.str [],D.sl (.im true) 3 [],D.sl (.im true) 6 [],D.sl (.im true) 10 []]].set 0 [D.str eu.1.1,D.sl (.im eu.1.2.1.1) 3 eu.1.2.1.2,D.sl (.im eu.1.2.2.1.1) 6 eu.1.2.2.1.2,D.sl (.im eu.1.2.2.2.1.1) 10 eu.1.2.2.2.1.2])))],[])))):=by kernel_rfl
theorem akY {Cl n m0 m1 a0 a1 a2 a3 a4 a5 a6}:F6 Cl n m0 (m1+1) a0 a1 a2 a3 a4 a5 a6=bif decide (a6 < ae a5.length) then iR dW 0 3 a2.1.2 a3 fun v9=>iR [.str] 0 1 a5 a6 fun v12=>Od Cl a2.1.1 a2.1.2 v9.1 v9.2.1.1 v9.2.1.2 v9.2.2.1.1 v9.2.2.1.2 a4 a5 a6 v12.1 a1 fun aO=>gd (a2.2.2.1.1&&true&&true) (F7 Cl n m0 m1 a0 aO.2.1 (a2.1,a2.2.1,[[.str aO.1.1,.sl (.im aO.1.2.1.1) 3 aO.1.2.1.2,.sl (.im aO.1.2.2.1.1) 6 aO.1.2.2.1.2,.sl (.im aO.1.2.2.2.1.1) 10 aO.1.2.2.2.1.2]],()) a3 a4 a5 (ao (a6+1))) else F5 Cl n m0 a0 a1 a2 (ao (a3+1)):=by kernel_rfl
theorem akZ {Cl n m0 m1 a0 a1 a2 a3 a4 a5 a6}:F7 Cl n m0 (m1+1) a0 a1 a2 a3 a4 a5 a6=bif decide (a6 < ae a5.length) then iR dW 0 3 a2.1.2 a3 fun cF=>iR [.str] 0 1 a5 a6 fun dQ=>Od Cl a2.1.1 a2.1.2 cF.1 cF.2.1.1 cF.2.1.2 cF.2.2.1.1 cF.2.2.1.2 a4 a5 a6 dQ.1 a1 fun v20=>gd (rO (List.length a2.2.2.1) 88) (F7 Cl n m0 m1 a0 v20.2.1 (a2.1,a2.2.1,a2.2.2.1++[[D.str [],D.sl (.im true) 3 [],D.sl (.im true) 6 [],D.sl (.im true) 10 []]].set 0 [D.str v20.1.1,D.sl (.im v20.1.2.1.1) 3 v20.1.2.1.2,D.sl (.im v20.1.2.2.1.1) 6 v20.1.2.2.1.2,D.sl (.im v20.1.2.2.2.1.1) 10 v20.1.2.2.2.1.2],()) a3 a4 a5 (ao (a6+1))) else CM Cl n m0 a0 a1 a2 (ao (a3+1)):=by kernel_rfl
theorem agx {m x0 x1}:Ev (c28 (T m) x0 x1 fun v0=>c31 (T m) v0.2.1 fun v1=>F5 (T m) m m ((true,[]),(true,[]),(true,[]),()) v1.2.1 (v1.1,(true,[]),(true,[]),()) 0) (T (m+1) 10 [.one (lC (.im x0) 1 x1)] []):=aW
def J0 m0 a0 a1 a2 a3 a4:=ST.hd 11 0 Cl n [] [m0] (bZ (.l 15) 1 bm a0++[sE 3 (.ptr (.l 15) 1 0),sE 41 (lC (.im a1) 4 a2),sE 42 (iC a3),sE 43 (iC a4)])
def F0 m1 a0 a1 a2 a3 a4 a5:=ST.hd 11 1 Cl n [] [m1] (bZ (.l 1) 1 c7 a0++[sE 1 (.ptr (.l 1) 1 0)]++bZ (.l 15) 1 bm a1++[sE 3 (.ptr (.l 15) 1 0),sE 29 (lC (.im a2) 2 a3),sE 30 (iC a4),sE 31 (iC a5)])
def F3 m2 a0 a1 a2 a3 a4 a5:=ST.hd 11 2 Cl n [] [m2] (bZ (.l 1) 1 c7 a0++[sE 1 (.ptr (.l 1) 1 0)]++bZ (.l 15) 1 bm a1++[sE 3 (.ptr (.l 15) 1 0),sE 17 (lC (.im a2) 3 a3),sE 18 (iC a4),sE 19 (iC a5)])
theorem Ro {Cl n m0 a0 a1 a2 a3 a4}:J0 Cl n (m0+1) a0 a1 a2 a3 a4=bif decide (a4 < a3) then iR fx 0 4 a2 a4 fun aO=>WS Cl aO.1 aO.2.1.1 aO.2.1.2 aO.2.2.1.1 aO.2.2.1.2 aO.2.2.2.1.1 aO.2.2.2.1.2 a0 fun bU=>J0 Cl n m0 bU.2.1 a1 a2 a3 (ao (a4+1)) else c37 Cl a0 fun cy=>rS cy.1:=by kernel_rfl
theorem aaj {Cl n m1 a0 a1 a2 a3 a4 a5}:F0 Cl n (m1+1) a0 a1 a2 a3 a4 a5=bif decide (a5 < a4) then iR nD 0 2 a3 a5 fun v8=>c21 Cl v8.1 v8.2.1.1 v8.2.1.2 fun v9=>du Cl v9.1 a1 fun v10=>bif v10.1.2.1 then F0 Cl n m1 a0 v10.2.1 a2 a3 a4 (ao (a5+1)) else F0 Cl n m1 a0 v10.2.1 a2 a3 a4 (ao (a5+1)) else J0 Cl n n a1 a0.2.2.1.1 a0.2.2.1.2 (ae a0.2.2.1.2.length) 0:=by kernel_rfl
theorem aak {Cl n m2 a0 a1 a2 a3 a4 a5}:F3 Cl n (m2+1) a0 a1 a2 a3 a4 a5=bif decide (a5 < a4) then iR dW 0 3 a3 a5 fun v3=>N' Cl v3.1 v3.2.1.1 v3.2.1.2 v3.2.2.1.1 v3.2.2.1.2 fun v4=>du Cl v4.1 a1 fun v5=>bif v5.1.2.1 then F3 Cl n m2 a0 v5.2.1 a2 a3 a4 (ao (a5+1)) else F3 Cl n m2 a0 v5.2.1 a2 a3 a4 (ao (a5+1)) else F0 Cl n n a0 a1 a0.2.1.1 a0.2.1.2 (ae a0.2.1.2.length) 0:=by kernel_rfl
theorem XH {m x0 x1 x2 x3 x4 x5}:Ev (c12 (T m) x0 x1 x2 x3 x4 x5 fun v0=>bif v0.1.1 != 0 then rS [] else F3 (T m) m m ((x0,x1),(x2,x3),(x4,x5),()) ((),(.im true,[]),()) x0 x1 (ae x1.length) 0) (T (m+1) 11 [.agg [lC (.im x0) 3 x1,lC (.im x2) 2 x3,lC (.im x4) 4 x5]] []):=aW
def KN m0 a0 a1 a2 a3:=ST.hd 12 0 Cl n [] [m0] (bZ (.l 1) 1 c7 a0++bZ (.l 2) 1 eN a1++[sE 2 (.ptr (.l 2) 1 0)]++bZ (.l 12) 1 jO a2++bZ (.l 16) 1 la a3++[sE 18 (.fn 1000000000000 [] [.fn 40 [] [.ptr (.l 1) 1 0],.fn 39 [] [.ptr (.l 1) 1 0,.ptr (.l 12) 1 0],.fn 44 [] [.ptr (.l 1) 1 0],.fn 39 [] [.ptr (.l 1) 1 0,.ptr (.l 16) 1 0]]),sE 19 (iC 4),sE 20 (iC 0)])
def RH m0 a0 a1 a2 a3:=ST.hd 12 0 Cl n [] [m0] (bZ (.l 1) 1 c7 a0++bZ (.l 2) 1 eN a1++[sE 2 (.ptr (.l 2) 1 0)]++bZ (.l 12) 1 jO a2++bZ (.l 16) 1 la a3++[sE 18 (.fn 1000000000000 [] [.fn 40 [] [.ptr (.l 1) 1 0],.fn 39 [] [.ptr (.l 1) 1 0,.ptr (.l 12) 1 0],.fn 44 [] [.ptr (.l 1) 1 0],.fn 39 [] [.ptr (.l 1) 1 0,.ptr (.l 16) 1 0]]),sE 19 (iC 4),sE 20 (iC 1)])
def aaF m0 a0 a1 a2 a3:=ST.hd 12 0 Cl n [] [m0] (bZ (.l 1) 1 c7 a0++bZ (.l 2) 1 eN a1++[sE 2 (.ptr (.l 2) 1 0)]++bZ (.l 12) 1 jO a2++bZ (.l 16) 1 la a3++[sE 18 (.fn 1000000000000 [] [.fn 40 [] [.ptr (.l 1) 1 0],.fn 39 [] [.ptr (.l 1) 1 0,.ptr (.l 12) 1 0],.fn 44 [] [.ptr (.l 1) 1 0],.fn 39 [] [.ptr (.l 1) 1 0,.ptr (.l 16) 1 0]]),sE 19 (iC 4),sE 20 (iC 2)])
def RI m0 a0 a1 a2 a3:=ST.hd 12 0 Cl n [] [m0] (bZ (.l 1) 1 c7 a0++bZ (.l 2) 1 eN a1++[sE 2 (.ptr (.l 2) 1 0)]++bZ (.l 12) 1 jO a2++bZ (.l 16) 1 la a3++[sE 18 (.fn 1000000000000 [] [.fn 40 [] [.ptr (.l 1) 1 0],.fn 39 [] [.ptr (.l 1) 1 0,.ptr (.l 12) 1 0],.fn 44 [] [.ptr (.l 1) 1 0],.fn 39 [] [.ptr (.l 1) 1 0,.ptr (.l 16) 1 0]]),sE 19 (iC 4),sE 20 (iC 3)])
def aaG m0 a0 a1 a2 a3:=ST.hd 12 0 Cl n [] [m0] (bZ (.l 1) 1 c7 a0++bZ (.l 2) 1 eN a1++[sE 2 (.ptr (.l 2) 1 0)]++bZ (.l 12) 1 jO a2++bZ (.l 16) 1 la a3++[sE 18 (.fn 1000000000000 [] [.fn 40 [] [.ptr (.l 1) 1 0],.fn 39 [] [.ptr (.l 1) 1 0,.ptr (.l 12) 1 0],.fn 44 [] [.ptr (.l 1) 1 0],.fn 39 [] [.ptr (.l 1) 1 0,.ptr (.l 16) 1 0]]),sE 19 (iC 4),sE 20 (iC 4)])
theorem amj {Cl n m0 a0 a1 a2 a3}:KN Cl n (m0+1) a0 a1 a2 a3=c40 Cl a0 fun v2=>bif v2.1.1 != 0 then some (.agg [iC v2.1.1,iC v2.1.2.1,iC v2.1.2.2.1],[]) else RH Cl n m0 v2.2.1 a1 ((),()) ((),()):=by kernel_rfl
theorem amk {Cl n m0 a0 a1 a2 a3}:RH Cl n (m0+1) a0 a1 a2 a3=c39 Cl a0 ((),()) fun v3=>bif v3.1.1 != 0 then some (.agg [iC v3.1.1,iC v3.1.2.1,iC v3.1.2.2.1],[]) else aaF Cl n m0 v3.2.1 a1 ((),()) ((),()):=by kernel_rfl
theorem aml {Cl n m0 a0 a1 a2 a3}:aaF Cl n (m0+1) a0 a1 a2 a3=c44 Cl a0 fun v4=>bif v4.1.1 != 0 then some (.agg [iC v4.1.1,iC v4.1.2.1,iC v4.1.2.2.1],[]) else RI Cl n m0 v4.2.1 a1 ((),()) ((),()):=by kernel_rfl
theorem amm {Cl n m0 a0 a1 a2 a3}:RI Cl n (m0+1) a0 a1 a2 a3=afB Cl a0 ((),()) fun v5=>bif v5.1.1 != 0 then some (.agg [iC v5.1.1,iC v5.1.2.1,iC v5.1.2.2.1],[]) else aaG Cl n m0 v5.2.1 a1 ((),()) ((),()):=by kernel_rfl
theorem amn {Cl n m0 a0 a1 a2 a3}:aaG Cl n (m0+1) a0 a1 a2 a3=some (.agg [iC 0,iC 0,iC 0],[]):=by kernel_rfl
theorem ahh {m x0 x1 x2 x3 x4 x5}:Ev (c38 (T m) ((x0,x1),(x2,x3),(x4,x5),()) fun v0=>afA (T m) v0.2.1 fun v1=>KN (T m) m m v1.2.1 (0,0,0,()) ((),()) ((),())) (T (m+1) 12 [.agg [lC (.im x0) 3 x1,lC (.im x2) 2 x3,lC (.im x4) 4 x5]] []):=aW
theorem agv {m x0 x1}:Ev (gd (fS 8 x1 false&&decide (x1.length * 8≤140737488355328)) (bif x1.isEmpty then some (pE,[bx ak ((.im true,x1),0,())]) else some (pE,[bx ak ((.own,x1),0,())]))) (T (m+1) 28 [.one (lC (.im x0) 1 x1)] []):=aW
def J9 x3 m0 a0 a1 a2 a3 a4 a5 a6 a7:=ST.hd 27 0 Cl n [bx ak x3] [m0] ([(.s 0,⟨pE,0⟩),sE 2 (lC (.im a0) 1 a1)]++bZ (.e 0) 0 ak a2++bZ (.l 6) 1 uN a3++[sE 6 (.ptr (.l 6) 1 0),sE 7 (iC a4),sE 8 (iC a5)]++bZ (.l 9) 1 uN a6++[sE 9 (.ptr (.l 9) 1 0),sE 10 (iC a7)])
def Rr x3 m0 m1 a0 a1 a2 a3 a4 a5 a6 a7:=ST.hd 27 1 Cl n [bx ak x3] [m0,m1] ([(.s 0,⟨pE,0⟩),sE 2 (lC (.im a0) 1 a1)]++bZ (.e 0) 0 ak a2++bZ (.l 6) 1 uN a3++[sE 6 (.ptr (.l 6) 1 0),sE 7 (iC a4),sE 8 (iC a5)]++bZ (.l 9) 1 uN a6++[sE 9 (.ptr (.l 9) 1 0),sE 10 (iC a7)])
theorem Rq {Cl n x3 m0 a0 a1 a2 a3 a4 a5 a6 a7}:J9 Cl n x3 (m0+1) a0 a1 a2 a3 a4 a5 a6 a7=bif decide (a7 < a4) then dG Cl 5 a2 fun v2=>bif v2.1==0 then zZ a6.2.1.1 fun t3=>gd (zM t3 (fun b3=>b3&&true&&true) (rO a6.2.1.2.length 48)) (Rr Cl n x3 m0 n a0 a1 v2.2.1 a3 a4 a5 (a6.1,(.own,zM t3 (fun b3=>[[.int .i64 0,.str [],.sl (.im true) 4 []]]) (a6.2.1.2++[[D.int .i64 0,D.str [],D.sl (.im true) 4 []]].set 0 [D.int .i64 0,D.str [],D.sl (.im true) 4 []])),()) a7) else zZ a6.2.1.1 fun t4=>Og Cl fun v5=>dG Cl a5 v2.2.1 fun v6=>iR [.str] 0 1 v5.1.2 v6.1 fun v9=>WZ Cl a0 a1 a4 v6.2.1 fun v10=>gd (zM t4 (fun b4=>b4&&true&&true) (rO a6.2.1.2.length 48)) (Rr Cl n x3 m0 n a0 a1 v10.2.1 a3 a4 a5 (a6.1,(.own,zM t4 (fun b4=>[[.int .i64 (ao (1+Int.tmod v2.1 2)),.str v9.1,.sl (.im v10.1.1) 4 v10.1.2]]) (a6.2.1.2++[[D.int .i64 0,D.str [],D.sl (.im true) 4 []]].set 0 [D.int .i64 (ao (1+Int.tmod v2.1 2)),D.str v9.1,D.sl (.im v10.1.1) 4 v10.1.2])),()) a7) else zZ a6.2.1.1 fun t17=>zO t17 (a6.2.1.2.length==a6.2.1.2.length && !a6.2.1.2.isEmpty) (zO t17 (rL a6.2.1.2.length) (some (.agg [sC a6.1,lC (.im (zB t17)) 3 (zW t17 a6.2.1.2)],[bx ak a2]))):=by kernel_rfl
theorem J' {Cl n x3 m0 m1 a0 a1 a2 a3 a4 a5 a6 a7}:Rr Cl n x3 m0 (m1+1) a0 a1 a2 a3 a4 a5 a6 a7=J9 Cl n x3 m0 a0 a1 a2 a3 a4 a5 a6 (ao (a7+1)):=by kernel_rfl
theorem agu {m x0 x1 x2 x3}:Ev (dG (T m) 6 x3 fun v0=>dG (T m) 2 v0.2.1 fun v1=>J9 (T m) m x3 m x1 x2 v1.2.1 ([],(.im true,[]),()) (ao (1+v0.1)) (ao (1+v1.1)) (x0,(.im true,[]),()) 0) (T (m+1) 27 [pE,.one (sC x0),.one (lC (.im x1) 1 x2)] [bx ak x3]):=aW
def ru m0 a0 a1 a2 a3 a4:=ST.hd 19 0 Cl n [] [m0] (bZ (.l 10) 1 bm a0++[sE 3 (.ptr (.l 10) 1 0),sE 23 (lC (.im a1) 3 a2),sE 24 (iC a3),sE 25 (iC a4)])
theorem akK {Cl n m0 a0 a1 a2 a3 a4}:ru Cl n (m0+1) a0 a1 a2 a3 a4=bif decide (a4 < a3) then iR lg 0 3 a2 a4 fun v5=>Et Cl a4 fun v6=>aN (2+List.length v6.1) (aN (([32,32]++v6.1).length+2) (du Cl ([32,32]++v6.1++[58,32]) a0 fun v7=>bif v7.1.2.1 then bif ae v5.2.2.1.2.length==0 then du Cl [101,110,100,10] v7.2.1 fun v8=>bif v8.1.2.1 then ru Cl n m0 v8.2.1 a1 a2 a3 (ao (a4+1)) else ru Cl n m0 v8.2.1 a1 a2 a3 (ao (a4+1)) else aN (List.length v5.1+4) (aN ((v5.1++[32,45,62,32]).length+List.length v5.2.1) (zc Cl v5.2.2.1.1 v5.2.2.1.2 fun v9=>aN ((v5.1++[32,45,62,32]++v5.2.1).length+List.length v9.1) (aN ((v5.1++[32,45,62,32]++v5.2.1++v9.1).length+1) (du Cl (v5.1++[32,45,62,32]++v5.2.1++v9.1++[10]) v7.2.1 fun v10=>bif v10.1.2.1 then ru Cl n m0 v10.2.1 a1 a2 a3 (ao (a4+1)) else ru Cl n m0 v10.2.1 a1 a2 a3 (ao (a4+1)))))) else bif ae v5.2.2.1.2.length==0 then du Cl [101,110,100,10] v7.2.1 fun v11=>bif v11.1.2.1 then ru Cl n m0 v11.2.1 a1 a2 a3 (ao (a4+1)) else ru Cl n m0 v11.2.1 a1 a2 a3 (ao (a4+1)) else aN (List.length v5.1+4) (aN ((v5.1++[32,45,62,32]).length+List.length v5.2.1) (zc Cl v5.2.2.1.1 v5.2.2.1.2 fun v12=>aN ((v5.1++[32,45,62,32]++v5.2.1).length+List.length v12.1) (aN ((v5.1++[32,45,62,32]++v5.2.1++v12.1).length+1) (du Cl (v5.1++[32,45,62,32]++v5.2.1++v12.1++[10]) v7.2.1 fun aO=>bif aO.1.2.1 then ru Cl n m0 aO.2.1 a1 a2 a3 (ao (a4+1)) else ru Cl n m0 aO.2.1 a1 a2 a3 (ao (a4+1)))))))) else du Cl [125,10] a0 fun bU=>bif bU.1.2.1 then c37 Cl bU.2.1 fun cy=>rS cy.1 else c37 Cl bU.2.1 fun cF=>rS cF.1:=by kernel_rfl
theorem agh {m x0 x1 x2 x3 x4}:Ev (WX (T m) x0 x1 x2 x3 x4 fun v0=>bif !v0.1 then rS [] else aN (9+x0.length) (aN (([112,114,111,116,111,99,111,108,32]++x0).length+7) (ow (T m) x1 x2 [44,32] fun v1=>aN (([112,114,111,116,111,99,111,108,32]++x0++[32,114,111,108,101,115,32]).length+List.length v1.1) (aN (([112,114,111,116,111,99,111,108,32]++x0++[32,114,111,108,101,115,32]++v1.1).length+3) (du (T m) ([112,114,111,116,111,99,111,108,32]++x0++[32,114,111,108,101,115,32]++v1.1++[32,123,10]) ((),(.im true,[]),()) fun v2=>bif v2.1.2.1 then ru (T m) m m v2.2.1 x3 x4 (ae x4.length) 0 else ru (T m) m m v2.2.1 x3 x4 (ae x4.length) 0))))) (T (m+1) 19 [.agg [sC x0,lC (.im x1) 1 x2,lC (.im x3) 3 x4]] []):=aW
def mE m0 a0 a1 a2 a3 a4:=ST.hd 21 0 Cl n [] [m0] (bZ (.l 16) 1 bm a0++[sE 3 (.ptr (.l 16) 1 0),sE 24 (lC (.im a1) 3 a2),sE 25 (iC a3),sE 26 (iC a4)])
def aai m1 a0:=ST.hd 21 1 Cl n [] [m1] (bZ (.l 1) 1 nD a0++[sE 1 (.ptr (.l 1) 1 0)])
theorem akI {Cl n m0 a0 a1 a2 a3 a4}:mE Cl n (m0+1) a0 a1 a2 a3 a4=bif decide (a4 < a3) then iR jB 0 3 a2 a4 fun v5=>Et Cl a4 fun v6=>aN (2+List.length v6.1) (aN (([32,32]++v6.1).length+2) (du Cl ([32,32]++v6.1++[58,32]) a0 fun v7=>bif v7.1.2.1 then bif v5.1==0 then du Cl [101,110,100,10] v7.2.1 fun v8=>bif v8.1.2.1 then mE Cl n m0 v8.2.1 a1 a2 a3 (ao (a4+1)) else mE Cl n m0 v8.2.1 a1 a2 a3 (ao (a4+1)) else bif v5.1==1 then aN (3+List.length v5.2.1) (zc Cl v5.2.2.1.1 v5.2.2.1.2 fun v9=>aN (([116,111,32]++v5.2.1).length+List.length v9.1) (aN (([116,111,32]++v5.2.1++v9.1).length+1) (du Cl ([116,111,32]++v5.2.1++v9.1++[10]) v7.2.1 fun v10=>bif v10.1.2.1 then mE Cl n m0 v10.2.1 a1 a2 a3 (ao (a4+1)) else mE Cl n m0 v10.2.1 a1 a2 a3 (ao (a4+1))))) else bif v5.1==2 then aN (5+List.length v5.2.1) (zc Cl v5.2.2.1.1 v5.2.2.1.2 fun v11=>aN (([102,114,111,109,32]++v5.2.1).length+List.length v11.1) (aN (([102,114,111,109,32]++v5.2.1++v11.1).length+1) (du Cl ([102,114,111,109,32]++v5.2.1++v11.1++[10]) v7.2.1 fun v12=>bif v12.1.2.1 then mE Cl n m0 v12.2.1 a1 a2 a3 (ao (a4+1)) else mE Cl n m0 v12.2.1 a1 a2 a3 (ao (a4+1))))) else mE Cl n m0 v7.2.1 a1 a2 a3 (ao (a4+1)) else bif v5.1==0 then du Cl [101,110,100,10] v7.2.1 fun aO=>bif aO.1.2.1 then mE Cl n m0 aO.2.1 a1 a2 a3 (ao (a4+1)) else mE Cl n m0 aO.2.1 a1 a2 a3 (ao (a4+1)) else bif v5.1==1 then aN (3+List.length v5.2.1) (zc Cl v5.2.2.1.1 v5.2.2.1.2 fun bU=>aN (([116,111,32]++v5.2.1).length+List.length bU.1) (aN (([116,111,32]++v5.2.1++bU.1).length+1) (du Cl ([116,111,32]++v5.2.1++bU.1++[10]) v7.2.1 fun cy=>bif cy.1.2.1 then mE Cl n m0 cy.2.1 a1 a2 a3 (ao (a4+1)) else mE Cl n m0 cy.2.1 a1 a2 a3 (ao (a4+1))))) else bif v5.1==2 then aN (5+List.length v5.2.1) (zc Cl v5.2.2.1.1 v5.2.2.1.2 fun cF=>aN (([102,114,111,109,32]++v5.2.1).length+List.length cF.1) (aN (([102,114,111,109,32]++v5.2.1++cF.1).length+1) (du Cl ([102,114,111,109,32]++v5.2.1++cF.1++[10]) v7.2.1 fun dX=>bif dX.1.2.1 then mE Cl n m0 dX.2.1 a1 a2 a3 (ao (a4+1)) else mE Cl n m0 dX.2.1 a1 a2 a3 (ao (a4+1))))) else mE Cl n m0 v7.2.1 a1 a2 a3 (ao (a4+1)))) else du Cl [125,10] a0 fun eG=>bif eG.1.2.1 then c37 Cl eG.2.1 fun dQ=>rS dQ.1 else c37 Cl eG.2.1 fun v20=>rS v20.1:=by kernel_rfl
theorem akJ {Cl n m1 a0}:aai Cl n (m1+1) a0=aN (6+List.length a0.1) (aN (([108,111,99,97,108,32]++a0.1).length+3) (du Cl ([108,111,99,97,108,32]++a0.1++[32,123,10]) ((),(.im true,[]),()) fun v2=>bif v2.1.2.1 then mE Cl n n v2.2.1 a0.2.1.1 a0.2.1.2 (ae a0.2.1.2.length) 0 else mE Cl n n v2.2.1 a0.2.1.1 a0.2.1.2 (ae a0.2.1.2.length) 0)):=by kernel_rfl
theorem agf {m x0 x1 x2}:Ev (c53 (T m) x0 x1 x2 fun v0=>bif !v0.1 then rS [] else fF (T m) x0 fun v1=>bif !v1.1 then rS [] else aai (T m) m m (x0,(x1,x2),())) (T (m+1) 21 [.agg [sC x0,lC (.im x1) 3 x2]] []):=aW
theorem XI {m x0 x1 x2}:Ev (Er (T m) x0 x1 x2 fun v0=>bif !v0.1 then rS [] else ki (T m) x0 x1 x2 ((),(.im true,[]),()) fun v1=>c37 (T m) v1.2.1 fun v2=>rS v2.1) (T (m+1) 15 [.one (lC (.im x0) 6 x1),.one (iC x2)] []):=aW
theorem agy {m x0}:Ev (c80 (T m) [112] true [] x0 fun v0=>dG (T m) 2 v0.2.1 fun v1=>bif v1.1==1 then W0 (T m) v0.1.1 v0.1.2.1.1 v0.1.2.1.2 v0.1.2.2.1.1 v0.1.2.2.1.2 fun v2=>c80 (T m) [113] v2.1.1 v2.1.2 v1.2.1 fun v3=>some (.one (lC (.im false) 3 [[.str v0.1.1,.sl (.im v0.1.2.1.1) 1 v0.1.2.1.2,.sl (.im v0.1.2.2.1.1) 3 v0.1.2.2.1.2],[.str v3.1.1,.sl (.im v3.1.2.1.1) 1 v3.1.2.1.2,.sl (.im v3.1.2.2.1.1) 3 v3.1.2.2.1.2]]),[bx ak v3.2.1]) else some (.one (lC (.im false) 3 [[.str v0.1.1,.sl (.im v0.1.2.1.1) 1 v0.1.2.1.2,.sl (.im v0.1.2.2.1.1) 3 v0.1.2.2.1.2]]),[bx ak v1.2.1])) (T (m+1) 31 [pE] [bx ak x0]):=aW
def Ko m0 a0 a1 a2 a3:=ST.hd 32 0 Cl n [] [m0] (bZ (.l 1) 1 dW a0++[sE 1 (.ptr (.l 1) 1 0),sE 5 (lC (.im a1) 2 a2),sE 6 (iC a3)])
def Kp m0 a0 a1 a2:=ST.hd 32 0 Cl n [] [m0] (bZ (.l 1) 1 dW a0++[sE 1 (.ptr (.l 1) 1 0),sE 5 (lC .own 2 a1),sE 6 (iC a2)])
theorem alB {Cl n m0 a0 a1 a2 a3}:Ko Cl n (m0+1) a0 a1 a2 a3=bif decide (a3 < ae a0.2.1.2.length) then iR [.str] 0 1 a0.2.1.2 a3 fun v3=>Oj Cl a0.1 a0.2.1.1 a0.2.1.2 a0.2.2.1.1 a0.2.2.1.2 v3.1 fun v4=>bif v4.1.2.1 != 0 then some (.aq [.one (lC (.im true) 2 []),.one (iC a3),.one (iC v4.1.2.1)],[]) else gd (a1&&true&&true) (Kp Cl n m0 a0 [[.str v4.1.1.1,.sl (.im v4.1.1.2.1.1) 3 v4.1.1.2.1.2]] (ao (a3+1))) else some (.aq [.one (lC (.im a1) 2 a2),.one (iC 0),.one (iC 0)],[]):=by kernel_rfl
theorem alC {Cl n m0 a0 a1 a2}:Kp Cl n (m0+1) a0 a1 a2=bif decide (a2 < ae a0.2.1.2.length) then iR [.str] 0 1 a0.2.1.2 a2 fun v7=>Oj Cl a0.1 a0.2.1.1 a0.2.1.2 a0.2.2.1.1 a0.2.2.1.2 v7.1 fun v8=>bif v8.1.2.1 != 0 then some (.aq [.one (lC (.im true) 2 []),.one (iC a2),.one (iC v8.1.2.1)],[]) else gd (rO a1.length 40) (Kp Cl n m0 a0 (a1++[[D.str [],D.sl (.im true) 3 []]].set 0 [D.str v8.1.1.1,D.sl (.im v8.1.1.2.1.1) 3 v8.1.1.2.1.2]) (ao (a2+1))) else gd (rL a1.length) (some (.aq [.one (lC (.im false) 2 (aV (whole a1))),.one (iC 0),.one (iC 0)],[])):=by kernel_rfl
theorem ag3 {m x0 x1 x2 x3 x4}:Ev (Oc (T m) x0 x1 x2 x3 x4 fun v0=>bif !v0.1 then some (.aq [.one (lC (.im true) 2 []),.one (iC 0),.one (iC 800)],[]) else Ko (T m) m m (x0,(x1,x2),(x3,x4),()) true [] 0) (T (m+1) 32 [.agg [sC x0,lC (.im x1) 1 x2,lC (.im x3) 3 x4]] []):=aW
def Ke x2 m0 a0 a1 a2 a3 a4 a5 a6:=ST.hd 34 0 Cl n [bx ak x2] [m0] ([(.s 0,⟨pE,0⟩),sE 1 (lC (.im a0) 3 a1)]++bZ (.e 0) 0 ak a2++bZ (.l 4) 1 fx a3++[sE 4 (.ptr (.l 4) 1 0)]++bZ (.l 15) 1 apD a4++[sE 5 (.ptr (.l 15) 1 0),sE 6 (iC a5),sE 7 (iC a6)])
def F8 x2 m0 a0 a1 a2 a3 a4 a5 a6:=ST.hd 34 0 Cl n [bx ak x2] [m0] ([(.s 0,⟨pE,0⟩),sE 1 (lC (.im a0) 3 a1)]++bZ (.e 0) 0 ak a2++bZ (.l 4) 1 fx a3++[sE 4 (.ptr (.l 4) 1 0)]++bZ (.l 15) 1 apF a4++[sE 5 (.ptr (.l 15) 1 0),sE 6 (iC a5),sE 7 (iC a6)])
def uw x2 m0 m1 a0 a1 a2 a3 a4 a5 a6 a7 a8 a9 aP:=ST.hd 34 1 Cl n [bx ak x2] [m0,m1] ([(.s 0,⟨pE,0⟩),sE 1 (lC (.im a0) 3 a1)]++bZ (.e 0) 0 ak a2++bZ (.l 4) 1 fx a3++[sE 4 (.ptr (.l 4) 1 0)]++bZ (.l 15) 1 apE a4++[sE 5 (.ptr (.l 15) 1 0),sE 6 (iC a5),sE 7 (iC a6)]++bZ (.l 8) 1 dW a7++[sE 8 (.ptr (.l 8) 1 0),sE 9 (sC a8),sE 10 (sC a9)]++bZ (.l 11) 1 eB aP++[sE 11 (.ptr (.l 11) 1 0)])
theorem ak' {Cl n x2 m0 a0 a1 a2 a3 a4 a5 a6}:Ke Cl n x2 (m0+1) a0 a1 a2 a3 a4 a5 a6=bif decide (a6 < a5) then dG Cl (ae a1.length) a2 fun v1=>iR dW 0 3 a1 v1.1 fun v4=>dG Cl (ae v4.2.1.2.length) v1.2.1 fun v5=>iR [.str] 0 1 v4.2.1.2 v5.1 fun v8=>c85 Cl v4.1 v4.2.1.1 v4.2.1.2 v4.2.2.1.1 v4.2.2.1.2 v8.1 ((),a4.2.1,a4.2.2.1,(.im a4.2.2.2.1.1,a4.2.2.2.1.2),(.im a4.2.2.2.2.1.1,a4.2.2.2.2.1.2),(.im a4.2.2.2.2.2.1.1,a4.2.2.2.2.2.1.2),a4.2.2.2.2.2.2) v5.2.1 fun v9=>kj Cl 7 fun v10=>bif a6==ao (a5 - 1) then kj Cl 6 fun v11=>uw Cl n x2 m0 n a0 a1 v9.2.2.1 a3 v9.2.1 a5 a6 v4 v8.1 v9.1 v11.1 else uw Cl n x2 m0 n a0 a1 v9.2.2.1 a3 v9.2.1 a5 a6 v4 v8.1 v9.1 v10.1 else some (.agg [sC a4.2.2.1,lC (.im a4.2.2.2.1.1) 3 a4.2.2.2.1.2,lC (.im a4.2.2.2.2.1.1) 6 a4.2.2.2.2.1.2,lC (.im a4.2.2.2.2.2.1.1) 10 a4.2.2.2.2.2.1.2],[bx ak a2]):=by kernel_rfl
theorem ala {Cl n x2 m0 a0 a1 a2 a3 a4 a5 a6}:F8 Cl n x2 (m0+1) a0 a1 a2 a3 a4 a5 a6=bif decide (a6 < a5) then dG Cl (ae a1.length) a2 fun eG=>iR dW 0 3 a1 eG.1 fun v21=>dG Cl (ae v21.2.1.2.length) eG.2.1 fun nF=>iR [.str] 0 1 v21.2.1.2 nF.1 fun eu=>c85 Cl v21.1 v21.2.1.1 v21.2.1.2 v21.2.2.1.1 v21.2.2.1.2 eu.1 ((),a4.2.1,a4.2.2.1,a4.2.2.2.1,a4.2.2.2.2.1,(.own,a4.2.2.2.2.2.1),a4.2.2.2.2.2.2) nF.2.1 fun fJ=>kj Cl 7 fun iN=>bif a6==ao (a5 - 1) then kj Cl 6 fun v28=>uw Cl n x2 m0 n a0 a1 fJ.2.2.1 a3 fJ.2.1 a5 a6 v21 eu.1 fJ.1 v28.1 else uw Cl n x2 m0 n a0 a1 fJ.2.2.1 a3 fJ.2.1 a5 a6 v21 eu.1 fJ.1 iN.1 else zZ a4.2.2.2.1.1 fun t29=>zZ a4.2.2.2.2.1.1 fun t30=>gd (zM t29 (fun NT=>zM t30 (fun Ic=>List.length a4.2.2.2.2.2.1==List.length a4.2.2.2.2.2.1 && !List.isEmpty a4.2.2.2.2.2.1) (a4.2.2.2.2.1.2.length==a4.2.2.2.2.1.2.length && !a4.2.2.2.2.1.2.isEmpty)) (a4.2.2.2.1.2.length==a4.2.2.2.1.2.length && !a4.2.2.2.1.2.isEmpty)) (gd (zM t30 (fun Ic=>zM t29 (fun NT=>rL (List.length a4.2.2.2.2.2.1)) (List.length a4.2.2.2.2.2.1==List.length a4.2.2.2.2.2.1 && !List.isEmpty a4.2.2.2.2.2.1)) (zM t29 (fun NT=>List.length a4.2.2.2.2.2.1==List.length a4.2.2.2.2.2.1 && !List.isEmpty a4.2.2.2.2.2.1) (a4.2.2.2.2.1.2.length==a4.2.2.2.2.1.2.length && !a4.2.2.2.2.1.2.isEmpty))) (zO t29 (zM t30 (fun b31=>rL a4.2.2.2.1.2.length) (List.length a4.2.2.2.2.2.1==List.length a4.2.2.2.2.2.1 && !List.isEmpty a4.2.2.2.2.2.1)) (zO t29 (zM t30 (fun b31=>rL (List.length a4.2.2.2.2.2.1)) (rL a4.2.2.2.1.2.length)) (zO t30 (rL a4.2.2.2.2.1.2.length) (zO t30 (rL (List.length a4.2.2.2.2.2.1)) (some (.agg [sC a4.2.2.1,lC (.im (zB t29)) 3 (zW t29 a4.2.2.2.1.2),lC (.im (zB t30)) 6 (zW t30 a4.2.2.2.2.1.2),lC (.im false) 10 (aV (whole a4.2.2.2.2.2.1))],[bx ak a2]))))))):=by kernel_rfl
theorem alb {Cl n x2 m0 m1 a0 a1 a2 a3 a4 a5 a6 a7 a8 a9 aP}:uw Cl n x2 m0 (m1+1) a0 a1 a2 a3 a4 a5 a6 a7 a8 a9 aP=Bp Cl a7.1 a7.2.1.1 a7.2.1.2 a7.2.2.1.1 a7.2.2.1.2 a8 fun v12=>c87 Cl a9 a4 a2 fun aO=>dG Cl 4 aO.2.2.1 fun bU=>px Cl bU.1 ((),aO.2.1.2.1,aO.2.1.2.2.1,aO.2.1.2.2.2.1,(.own,aO.2.1.2.2.2.2.1),aO.2.1.2.2.2.2.2) bU.2.1 fun cy=>bif a6==ao (a5 - 1) then qX Cl aP.1 aP.2.1 aP.2.2.1 aP.2.2.2.1 v12.1 aP.2.2.2.2.2.1 false [[.int .i64 aO.1],[.int .i64 cy.1]] aP.2.2.2.2.2.2.2.1.1 aP.2.2.2.2.2.2.2.1.2 aP.2.2.2.2.2.2.2.2.1.1 aP.2.2.2.2.2.2.2.2.1.2 aP.2.2.2.2.2.2.2.2.2.1 ((),cy.2.1.2.1,cy.2.1.2.2.1,cy.2.1.2.2.2.1,(.own,cy.2.1.2.2.2.2.1),cy.2.1.2.2.2.2.2) cy.2.2.1 fun cF=>F8 Cl n x2 m0 a0 a1 cF.2.2.1 a3 cF.2.1 a5 (ao (a6+1)) else qY Cl aP.1 aP.2.1 aP.2.2.1 aP.2.2.2.1 v12.1 aP.2.2.2.2.2.1 false [[.int .i64 aO.1],[.int .i64 cy.1]] aP.2.2.2.2.2.2.2.1.1 aP.2.2.2.2.2.2.2.1.2 aP.2.2.2.2.2.2.2.2.1.1 aP.2.2.2.2.2.2.2.2.1.2 aP.2.2.2.2.2.2.2.2.2.1 ((),cy.2.1.2.1,cy.2.1.2.2.1,cy.2.1.2.2.2.1,(.own,cy.2.1.2.2.2.2.1),cy.2.1.2.2.2.2.2) cy.2.2.1 fun dX=>F8 Cl n x2 m0 a0 a1 dX.2.2.1 a3 dX.2.1 a5 (ao (a6+1)):=by kernel_rfl
theorem agN {m x0 x1 x2}:Ev (dG (T m) 3 x2 fun v0=>Ke (T m) m x2 m x0 x1 v0.2.1 ([],(true,[]),(true,[]),(true,[]),()) ((),(x0,x1),[109,97,105,110],(true,[]),(true,[]),(true,[]),[],(true,[]),0,0,0,()) (ao (1+v0.1)) 0) (T (m+1) 34 [pE,.one (lC (.im x0) 3 x1)] [bx ak x2]):=aW
theorem agR {m x0 x1 x2 x3 x4 x5 x6 x7 x8 x9 cz bL}:Ev (iR [.str] 0 1 x4 x9 fun v2=>Bp (T m) x2 x3 x4 x5 x6 v2.1 fun v3=>dG (T m) 7 bL fun v4=>Eu (T m) 0 0 ((),(x0,x1),v3.1,(.own,[[.str [99],.int .i64 5,.str cz],[.str [110],.int .i64 1,.str []]]),(.im true,[]),(.im true,[]),v3.1,(x7,x8),x9,0,ao (9+v4.1),()) v4.2.1 fun v5=>zZ v5.2.1.2.2.2.1.1 fun t6=>zZ v5.2.1.2.2.2.2.1.1 fun t7=>zZ v5.2.1.2.2.2.2.2.1.1 fun t8=>zO t6 (v5.2.1.2.2.2.1.2.length==v5.2.1.2.2.2.1.2.length && !v5.2.1.2.2.2.1.2.isEmpty) (zO t6 (zM t7 (fun NQ=>zM t8 (fun b11=>rL v5.2.1.2.2.2.1.2.length) (v5.2.1.2.2.2.2.2.1.2.length==v5.2.1.2.2.2.2.2.1.2.length && !v5.2.1.2.2.2.2.2.1.2.isEmpty)) (v5.2.1.2.2.2.2.1.2.length==v5.2.1.2.2.2.2.1.2.length && !v5.2.1.2.2.2.2.1.2.isEmpty)) (zO t7 (zM t6 (fun b6=>v5.2.1.2.2.2.2.1.2.length==v5.2.1.2.2.2.2.1.2.length && !v5.2.1.2.2.2.2.1.2.isEmpty) (zM t8 (fun b12=>rL v5.2.1.2.2.2.1.2.length) (v5.2.1.2.2.2.2.2.1.2.length==v5.2.1.2.2.2.2.2.1.2.length && !v5.2.1.2.2.2.2.2.1.2.isEmpty))) (zO t7 (zM t8 (fun b9=>rL v5.2.1.2.2.2.2.1.2.length) (zM t6 (fun b6=>v5.2.1.2.2.2.2.2.1.2.length==v5.2.1.2.2.2.2.2.1.2.length && !v5.2.1.2.2.2.2.2.1.2.isEmpty) (rL v5.2.1.2.2.2.1.2.length))) (zO t8 (zM t7 (fun b7=>zM t6 (fun b6=>v5.2.1.2.2.2.2.2.1.2.length==v5.2.1.2.2.2.2.2.1.2.length && !v5.2.1.2.2.2.2.2.1.2.isEmpty) (rL v5.2.1.2.2.2.1.2.length)) (rL v5.2.1.2.2.2.2.1.2.length)) (zO t8 (rL v5.2.1.2.2.2.2.2.1.2.length) (some (.agg [sC v5.2.1.2.2.1,lC (.im (zB t6)) 3 (zW t6 v5.2.1.2.2.2.1.2),lC (.im (zB t7)) 6 (zW t7 v5.2.1.2.2.2.2.1.2),lC (.im (zB t8)) 10 (zW t8 v5.2.1.2.2.2.2.2.1.2)],[bx ak v5.2.2.1])))))))) (T (m+1) 33 [pE,.one (lC (.im x0) 3 x1),.agg [sC x2,lC (.im x3) 1 x4,lC (.im x5) 3 x6],.one (lC (.im x7) 2 x8),.one (iC x9),.one (sC cz)] [bx ak bL]):=aW
theorem O4 {m x0 x1}:Ev (c91 (T m) x1 fun v0=>zZ v0.2.1.2.1.1 fun t1=>gd (zM t1 (fun b1=>fS 1 (D.dc x0) false&&(b1&&true&&decide ((D.dc x0).length * 1≤140737488355328))) (fS 1 (D.dc x0) v0.2.1.2.1.2.isEmpty&&true&&true&&v0.2.1.2.1.2.length==v0.2.1.2.1.2.length&&true&&decide ((v0.2.1.2.1.2.length+(D.dc x0).length) * 1≤140737488355328))) (zM t1 (fun b1=>bif (D.dc x0).isEmpty then some (.aq [.one (iC (ae x0.length)),.one .fR],[bx bm ((),(.im true,D.dc x0),())]) else some (.aq [.one (iC (ae x0.length)),.one .fR],[bx bm ((),(.own,D.dc x0),())])) (some (.aq [.one (iC (ae x0.length)),.one .fR],[bx bm ((),(.own,v0.2.1.2.1.2++D.dc x0),())])))) (T (m+1) 35 [pE,.one (sC x0)] [bx bm x1]):=aW
def J6 x7 m0 a0 a1 a2 a3 a4 a5 a6 a7:=ST.hd 36 0 Cl n [bx bm x7] [m0] ([(.s 0,⟨pE,0⟩)]++bZ (.e 0) 0 bm a0++bZ (.l 3) 1 fx a1++[sE 3 (.ptr (.l 3) 1 0),sE 4 (lC (.im a2) 1 a3),sE 8 (lC (.im a4) 3 a5),sE 9 (iC a6),sE 10 (iC a7)])
def J7 x7 m0 a0 a1 a2 a3 a4 a5 a6:=ST.hd 36 0 Cl n [bx bm x7] [m0] ([(.s 0,⟨pE,0⟩)]++bZ (.e 0) 0 bm a0++bZ (.l 3) 1 fx a1++[sE 3 (.ptr (.l 3) 1 0),sE 4 (lC .own 1 a2),sE 8 (lC (.im a3) 3 a4),sE 9 (iC a5),sE 10 (iC a6)])
theorem akU {Cl n x7 m0 a0 a1 a2 a3 a4 a5 a6 a7}:J6 Cl n x7 (m0+1) a0 a1 a2 a3 a4 a5 a6 a7=bif decide (a7 < a6) then iR DE 0 3 a5 a7 fun v2=>aN (List.length v2.1+2) (Bn Cl v2.2.1 v2.2.2.1 fun v3=>aN ((v2.1++[58,32]).length+List.length v3.1) (gd (a2&&true&&true) (J7 Cl n x7 m0 a0 a1 [[.str (v2.1++[58,32]++v3.1)]] a4 a5 a6 (ao (a7+1))))) else aN (5+List.length a1.1) (aN (([112,114,111,99,32]++a1.1).length+1) (ow Cl a2 a3 [44,32] fun v4=>aN (([112,114,111,99,32]++a1.1++[40]).length+List.length v4.1) (aN (([112,114,111,99,32]++a1.1++[40]++v4.1).length+3) (ik Cl 0 ([112,114,111,99,32]++a1.1++[40]++v4.1++[41,32,123]) a0 fun v5=>c93 Cl a1.1 a1.2.1.1 a1.2.1.2 a1.2.2.1.1 a1.2.2.1.2 a1.2.2.2.1.1 a1.2.2.2.1.2 0 1 v5.2.1 fun v6=>ik Cl 0 [125] v6.2.1 fun v7=>some (.aq [],[bx bm v7.2.1]))))):=by kernel_rfl
theorem akV {Cl n x7 m0 a0 a1 a2 a3 a4 a5 a6}:J7 Cl n x7 (m0+1) a0 a1 a2 a3 a4 a5 a6=bif decide (a6 < a5) then iR DE 0 3 a4 a6 fun v10=>aN (List.length v10.1+2) (Bn Cl v10.2.1 v10.2.2.1 fun v11=>aN ((v10.1++[58,32]).length+List.length v11.1) (gd (rO a2.length 16) (J7 Cl n x7 m0 a0 a1 (a2++whole ([[D.str []]].set 0 [D.str (v10.1++[58,32]++v11.1)])) a3 a4 a5 (ao (a6+1))))) else aN (5+List.length a1.1) (aN (([112,114,111,99,32]++a1.1).length+1) (gd (rL a2.length) (ow Cl false (aV (whole a2)) [44,32] fun v12=>aN (([112,114,111,99,32]++a1.1++[40]).length+List.length v12.1) (aN (([112,114,111,99,32]++a1.1++[40]++v12.1).length+3) (ik Cl 0 ([112,114,111,99,32]++a1.1++[40]++v12.1++[41,32,123]) a0 fun aO=>c93 Cl a1.1 a1.2.1.1 a1.2.1.2 a1.2.2.1.1 a1.2.2.1.2 a1.2.2.2.1.1 a1.2.2.2.1.2 0 1 aO.2.1 fun bU=>ik Cl 0 [125] bU.2.1 fun cy=>some (.aq [],[bx bm cy.2.1])))))):=by kernel_rfl
theorem agp {m x0 x1 x2 x3 x4 x5 x6 x7}:Ev (J6 (T m) m x7 m x7 (x0,(x1,x2),(x3,x4),(x5,x6),()) true [] x1 x2 (ae x2.length) 0) (T (m+1) 36 [pE,.agg [sC x0,lC (.im x1) 3 x2,lC (.im x3) 6 x4,lC (.im x5) 10 x6]] [bx bm x7]):=aW
theorem XK {m x0}:Ev (zZ x0.2.1.1 fun t0=>zM t0 (fun b0=>none) (gd (!x0.2.1.2.length==0&&true) (gd (x0.2.1.2.length==x0.2.1.2.length && !x0.2.1.2.length==0&&decide (x0.2.1.2.length≤140737488355328)) (aH (kC x0.2.1.2) fun o1=>some (.one (sC o1),[bx yC ((),(),())]))))) (T (m+1) 37 [pE] [bx bm x0]):=aW
theorem ahi {m x0}:Ev (some (.one (.fn 39 [] [.ptr (.e 0) 0 0,.ptr (.e 1) 0 0]),[bx j9 ((.im x0.1.1,x0.1.2),(.im x0.2.1.1,x0.2.1.2),(.im x0.2.2.1.1,x0.2.2.1.2),()),bx jO ((),())])) (T (m+1) 38 [.one (.fn 1000000000000 [] [.fn 42 [] [],.fn 43 [] []]),pE] [bx c7 x0]):=aW
theorem ahl {m x0}:Ev (some (.one (.fn 39 [] [.ptr (.e 0) 0 0,.ptr (.e 1) 0 0]),[bx j9 ((.im x0.1.1,x0.1.2),(.im x0.2.1.1,x0.2.1.2),(.im x0.2.2.1.1,x0.2.2.1.2),()),bx la ((),())])) (T (m+1) 38 [.one (.fn 1000000000000 [] [.fn 47 [] []]),pE] [bx c7 x0]):=aW
theorem ahm {m x0}:Ev (WT (T m) x0.1.1 x0.1.2 x0.2.1.1 x0.2.1.2 x0.2.2.1.1 x0.2.2.1.2 fun v0=>some (.agg [iC v0.1.1,iC v0.1.2.1,iC v0.1.2.2.1],[bx j9 ((.im x0.1.1,x0.1.2),(.im x0.2.1.1,x0.2.1.2),(.im x0.2.2.1.1,x0.2.2.1.2),())])) (T (m+1) 40 [pE] [bx c7 x0]):=aW
def KO x0 x1 m0 a0 a1 a2 a3 a4:=ST.hd 39 0 Cl n [bx c7 x0,bx jO x1] [m0] ([(.s 0,⟨pE,0⟩),sE 1 (.ptr (.e 1) 0 0)]++bZ (.e 0) 0 j9 a0++bZ (.e 1) 0 jO a1++bZ (.l 2) 1 eN a2++[sE 2 (.ptr (.l 2) 1 0),sE 9 (iC a3),sE 10 (iC a4)])
def KP x0 x1 m0 m1 a0 a1 a2 a3 a4 a5:=ST.hd 39 1 Cl n [bx c7 x0,bx jO x1] [m0,m1] ([(.s 0,⟨pE,0⟩),sE 1 (.ptr (.e 1) 0 0)]++bZ (.e 0) 0 j9 a0++bZ (.e 1) 0 jO a1++bZ (.l 2) 1 eN a2++[sE 2 (.ptr (.l 2) 1 0),sE 9 (iC a3),sE 10 (iC a4),sE 3 (iC a5),sE 13 (.fn 1000000000000 [] [.fn 42 [] [],.fn 43 [] []]),sE 14 (iC 2),sE 15 (iC 0)])
def aaH x0 x1 m0 m1 a0 a1 a2 a3 a4 a5:=ST.hd 39 1 Cl n [bx c7 x0,bx jO x1] [m0,m1] ([(.s 0,⟨pE,0⟩),sE 1 (.ptr (.e 1) 0 0)]++bZ (.e 0) 0 j9 a0++bZ (.e 1) 0 jO a1++bZ (.l 2) 1 eN a2++[sE 2 (.ptr (.l 2) 1 0),sE 9 (iC a3),sE 10 (iC a4),sE 3 (iC a5),sE 13 (.fn 1000000000000 [] [.fn 42 [] [],.fn 43 [] []]),sE 14 (iC 2),sE 15 (iC 1)])
def aaI x0 x1 m0 m1 a0 a1 a2 a3 a4 a5:=ST.hd 39 1 Cl n [bx c7 x0,bx jO x1] [m0,m1] ([(.s 0,⟨pE,0⟩),sE 1 (.ptr (.e 1) 0 0)]++bZ (.e 0) 0 j9 a0++bZ (.e 1) 0 jO a1++bZ (.l 2) 1 eN a2++[sE 2 (.ptr (.l 2) 1 0),sE 9 (iC a3),sE 10 (iC a4),sE 3 (iC a5),sE 13 (.fn 1000000000000 [] [.fn 42 [] [],.fn 43 [] []]),sE 14 (iC 2),sE 15 (iC 2)])
theorem amo {Cl n x0 x1 m0 a0 a1 a2 a3 a4}:KO Cl n x0 x1 (m0+1) a0 a1 a2 a3 a4=bif decide (a4 < a3) then KP Cl n x0 x1 m0 n a0 ((),()) a2 a3 a4 a4 else some (.agg [iC 0,iC 0,iC 0],[bx j9 a0,bx jO ((),())]):=by kernel_rfl
theorem amp {Cl n x0 x1 m0 m1 a0 a1 a2 a3 a4 a5}:KP Cl n x0 x1 m0 (m1+1) a0 a1 a2 a3 a4 a5=zZ a0.1.1 fun t0=>zZ a0.2.1.1 fun t1=>zZ a0.2.2.1.1 fun t2=>zO t0 (rL a0.1.2.length) (zO t1 (rL a0.2.1.2.length) (zO t2 (rL a0.2.2.1.2.length) (WU Cl (zB t0) (zW t0 a0.1.2) (zB t1) (zW t1 a0.2.1.2) (zB t2) (zW t2 a0.2.2.1.2) a5 fun v3=>bif v3.1.1 != 0 then some (.agg [iC v3.1.1,iC v3.1.2.1,iC v3.1.2.2.1],[bx j9 ((t0,a0.1.2),(t1,a0.2.1.2),(t2,a0.2.2.1.2),()),bx jO ((),())]) else aaH Cl n x0 x1 m0 m1 ((t0,a0.1.2),(t1,a0.2.1.2),(t2,a0.2.2.1.2),()) ((),()) a2 a3 a4 a5))):=by kernel_rfl
theorem amq {Cl n x0 x1 m0 m1 a0 a1 a2 a3 a4 a5}:aaH Cl n x0 x1 m0 (m1+1) a0 a1 a2 a3 a4 a5=zZ a0.1.1 fun t15=>zZ a0.2.1.1 fun t16=>zZ a0.2.2.1.1 fun t17=>zO t15 (rL a0.1.2.length) (zO t16 (rL a0.2.1.2.length) (zO t17 (rL a0.2.2.1.2.length) (WV Cl (zB t15) (zW t15 a0.1.2) (zB t16) (zW t16 a0.2.1.2) (zB t17) (zW t17 a0.2.2.1.2) a5 fun eG=>bif eG.1.1 != 0 then some (.agg [iC eG.1.1,iC eG.1.2.1,iC eG.1.2.2.1],[bx j9 ((t15,a0.1.2),(t16,a0.2.1.2),(t17,a0.2.2.1.2),()),bx jO ((),())]) else aaI Cl n x0 x1 m0 m1 ((t15,a0.1.2),(t16,a0.2.1.2),(t17,a0.2.2.1.2),()) ((),()) a2 a3 a4 a5))):=by kernel_rfl
theorem amr {Cl n x0 x1 m0 m1 a0 a1 a2 a3 a4 a5}:aaI Cl n x0 x1 m0 (m1+1) a0 a1 a2 a3 a4 a5=KO Cl n x0 x1 m0 a0 ((),()) a2 a3 (ao (a4+1)):=by kernel_rfl
theorem ahj {m x0 x1}:Ev (KO (T m) m x0 x1 m ((.im x0.1.1,x0.1.2),(.im x0.2.1.1,x0.2.1.2),(.im x0.2.2.1.1,x0.2.2.1.2),()) ((),()) (0,0,0,()) (ae x0.2.2.1.2.length) 0) (T (m+1) 39 [pE,.one (.ptr (.e 1) 0 0)] [bx c7 x0,bx jO x1]):=aW
theorem ahn {m x0}:Ev (Es (T m) x0.1.1 x0.1.2 x0.2.1.1 x0.2.1.2 x0.2.2.1.1 x0.2.2.1.2 [109,97,105,110] fun v0=>bif decide (v0.1 < 0) then c46 (T m) 1504 (-1) (-1) fun v1=>some (.agg [iC v1.1.1,iC v1.1.2.1,iC v1.1.2.2.1],[bx j9 ((.im x0.1.1,x0.1.2),(.im x0.2.1.1,x0.2.1.2),(.im x0.2.2.1.1,x0.2.2.1.2),())]) else iR [.im 3] 1 1 x0.2.2.1.2 v0.1 fun v4=>bif decide (ae v4.1.2.length > 0) then c46 (T m) 1504 (-1) (-1) fun v5=>some (.agg [iC v5.1.1,iC v5.1.2.1,iC v5.1.2.2.1],[bx j9 ((.im x0.1.1,x0.1.2),(.im x0.2.1.1,x0.2.1.2),(.im x0.2.2.1.1,x0.2.2.1.2),())]) else some (.agg [iC 0,iC 0,iC 0],[bx j9 ((.im x0.1.1,x0.1.2),(.im x0.2.1.1,x0.2.1.2),(.im x0.2.2.1.1,x0.2.2.1.2),())])) (T (m+1) 44 [pE] [bx c7 x0]):=aW
def KQ x0 x1 m0 a0 a1 a2 a3 a4:=ST.hd 39 0 Cl n [bx c7 x0,bx la x1] [m0] ([(.s 0,⟨pE,0⟩),sE 1 (.ptr (.e 1) 0 0)]++bZ (.e 0) 0 j9 a0++bZ (.e 1) 0 la a1++bZ (.l 2) 1 eN a2++[sE 2 (.ptr (.l 2) 1 0),sE 9 (iC a3),sE 10 (iC a4)])
def KR x0 x1 m0 m1 a0 a1 a2 a3 a4 a5:=ST.hd 39 1 Cl n [bx c7 x0,bx la x1] [m0,m1] ([(.s 0,⟨pE,0⟩),sE 1 (.ptr (.e 1) 0 0)]++bZ (.e 0) 0 j9 a0++bZ (.e 1) 0 la a1++bZ (.l 2) 1 eN a2++[sE 2 (.ptr (.l 2) 1 0),sE 9 (iC a3),sE 10 (iC a4),sE 3 (iC a5),sE 13 (.fn 1000000000000 [] [.fn 47 [] []]),sE 14 (iC 1),sE 15 (iC 0)])
def aaJ x0 x1 m0 m1 a0 a1 a2 a3 a4 a5:=ST.hd 39 1 Cl n [bx c7 x0,bx la x1] [m0,m1] ([(.s 0,⟨pE,0⟩),sE 1 (.ptr (.e 1) 0 0)]++bZ (.e 0) 0 j9 a0++bZ (.e 1) 0 la a1++bZ (.l 2) 1 eN a2++[sE 2 (.ptr (.l 2) 1 0),sE 9 (iC a3),sE 10 (iC a4),sE 3 (iC a5),sE 13 (.fn 1000000000000 [] [.fn 47 [] []]),sE 14 (iC 1),sE 15 (iC 1)])
theorem ams {Cl n x0 x1 m0 a0 a1 a2 a3 a4}:KQ Cl n x0 x1 (m0+1) a0 a1 a2 a3 a4=bif decide (a4 < a3) then KR Cl n x0 x1 m0 n a0 ((),()) a2 a3 a4 a4 else some (.agg [iC 0,iC 0,iC 0],[bx j9 a0,bx la ((),())]):=by kernel_rfl
theorem amt {Cl n x0 x1 m0 m1 a0 a1 a2 a3 a4 a5}:KR Cl n x0 x1 m0 (m1+1) a0 a1 a2 a3 a4 a5=zZ a0.1.1 fun t0=>zZ a0.2.1.1 fun t1=>zZ a0.2.2.1.1 fun t2=>zO t0 (rL a0.1.2.length) (zO t1 (rL a0.2.1.2.length) (zO t2 (rL a0.2.2.1.2.length) (WW Cl (zB t0) (zW t0 a0.1.2) (zB t1) (zW t1 a0.2.1.2) (zB t2) (zW t2 a0.2.2.1.2) a5 fun v3=>bif v3.1.1 != 0 then some (.agg [iC v3.1.1,iC v3.1.2.1,iC v3.1.2.2.1],[bx j9 ((t0,a0.1.2),(t1,a0.2.1.2),(t2,a0.2.2.1.2),()),bx la ((),())]) else aaJ Cl n x0 x1 m0 m1 ((t0,a0.1.2),(t1,a0.2.1.2),(t2,a0.2.2.1.2),()) ((),()) a2 a3 a4 a5))):=by kernel_rfl
theorem amu {Cl n x0 x1 m0 m1 a0 a1 a2 a3 a4 a5}:aaJ Cl n x0 x1 m0 (m1+1) a0 a1 a2 a3 a4 a5=KQ Cl n x0 x1 m0 a0 ((),()) a2 a3 (ao (a4+1)):=by kernel_rfl
theorem ahk {m x0 x1}:Ev (KQ (T m) m x0 x1 m ((.im x0.1.1,x0.1.2),(.im x0.2.1.1,x0.2.1.2),(.im x0.2.2.1.1,x0.2.2.1.2),()) ((),()) (0,0,0,()) (ae x0.2.2.1.2.length) 0) (T (m+1) 39 [pE,.one (.ptr (.e 1) 0 0)] [bx c7 x0,bx la x1]):=aW
def aan x1 m0 a0 a1:=ST.hd 73 0 Cl n [bx ak x1] [m0] ([(.s 0,⟨pE,0⟩),sE 1 (iC a0)]++bZ (.e 0) 0 ak a1)
theorem aao {Cl n x1 m0 a0 a1}:aan Cl n x1 (m0+1) a0 a1=zZ a1.1.1 fun t1=>zI t1 cd 0 1 a1.1.2 (ao (ao (a1.2.1+1) - 1)) fun v4=>gd (!decide (iP a0=0)) (some (.one (iC (ao ((iP v4.1).tmod (iP a0)))),[bx ak ((t1,a1.1.2),ao (a1.2.1+1),())])):=by kernel_rfl
theorem OX {m x0 x1}:Ev (bif decide (x0 < 1) then some (.one (iC 0),[bx ak x1]) else zZ x1.1.1 fun t0=>bif decide (x1.2.1≥ae x1.1.2.length) then some (.one (iC 0),[bx ak ((t0,x1.1.2),x1.2.1,())]) else aan (T m) m x1 m x0 ((t0,x1.1.2),x1.2.1,())) (T (m+1) 73 [pE,.one (iC x0)] [bx ak x1]):=aW
theorem agS {m}:Ev (some (.one (lC (.im false) 1 [[.str [97]],[.str [98]],[.str [99]],[.str [100]],[.str [101]]]),[])) (T (m+1) 48 [] []):=aW
def aas x3 m0 a0 a1 a2 a3 a4 a5 a6 a7 a8:=ST.hd 74 0 Cl n [bx ak x3] [m0] ([(.s 0,⟨pE,0⟩),sE 1 (lC (.im a0) 1 a1),sE 2 (iC a2)]++bZ (.e 0) 0 ak a3++[sE 7 (lC (.im a4) 4 a5),sE 8 (iC a6),sE 9 (iC a7),sE 10 (iC a8)])
def Kd x3 m0 a0 a1 a2 a3 a4 a5 a6 a7:=ST.hd 74 0 Cl n [bx ak x3] [m0] ([(.s 0,⟨pE,0⟩),sE 1 (lC (.im a0) 1 a1),sE 2 (iC a2)]++bZ (.e 0) 0 ak a3++[sE 7 (lC .own 4 a4),sE 8 (iC a5),sE 9 (iC a6),sE 10 (iC a7)])
theorem ak4 {Cl n x3 m0 a0 a1 a2 a3 a4 a5 a6 a7 a8}:aas Cl n x3 (m0+1) a0 a1 a2 a3 a4 a5 a6 a7 a8=bif decide (a8 < a6) then c49 Cl fun v2=>iR [.str] 0 1 v2.1.2 ((ao (a7+a8)).tmod 4) fun v5=>N5 Cl a0 a1 a3 fun v6=>dG Cl a2 v6.2.1 fun v7=>gd (a4&&true&&true) (Kd Cl n x3 m0 a0 a1 a2 v7.2.1 [[.str v5.1,.int .i64 v6.1.1,.str v6.1.2.1,.int .i64 v7.1]] a6 a7 (ao (a8+1))) else some (.one (lC (.im a4) 4 a5),[bx ak a3]):=by kernel_rfl
theorem aat {Cl n x3 m0 a0 a1 a2 a3 a4 a5 a6 a7}:Kd Cl n x3 (m0+1) a0 a1 a2 a3 a4 a5 a6 a7=bif decide (a7 < a5) then c49 Cl fun v8=>iR [.str] 0 1 v8.1.2 ((ao (a6+a7)).tmod 4) fun v11=>N5 Cl a0 a1 a3 fun v12=>dG Cl a2 v12.2.1 fun aO=>gd (rO a4.length 48) (Kd Cl n x3 m0 a0 a1 a2 aO.2.1 (a4++[[D.str [],D.int .i64 0,D.str [],D.int .i64 0]].set 0 [D.str v11.1,D.int .i64 v12.1.1,D.str v12.1.2.1,D.int .i64 aO.1]) a5 a6 (ao (a7+1))) else gd (rL a4.length) (some (.one (lC (.im false) 4 (aV (whole a4))),[bx ak a3])):=by kernel_rfl
theorem agD {m x0 x1 x2 x3}:Ev (dG (T m) 3 x3 fun v0=>dG (T m) 4 v0.2.1 fun v1=>aas (T m) m x3 m x0 x1 x2 v1.2.1 true [] (ao (1+v0.1)) v1.1 0) (T (m+1) 74 [pE,.one (lC (.im x0) 1 x1),.one (iC x2)] [bx ak x3]):=aW
def FW m0 a0 a1 a2 a3 a4:=ST.hd 55 0 Cl n [] [m0] (bZ (.l 1) 1 dW a0++[sE 1 (.ptr (.l 1) 1 0),sE 47 (lC (.im a1) 3 a2),sE 48 (iC a3),sE 49 (iC a4)])
def JW m0 m1 a0 a1 a2 a3 a4 a5:=ST.hd 55 1 Cl n [] [m0,m1] (bZ (.l 1) 1 dW a0++[sE 1 (.ptr (.l 1) 1 0),sE 47 (lC (.im a1) 3 a2),sE 48 (iC a3),sE 49 (iC a4)]++bZ (.l 6) 1 lg a5++[sE 6 (.ptr (.l 6) 1 0)])
def JX m2 a0 a1 a2 a3 a4:=ST.hd 55 2 Cl n [] [m2] (bZ (.l 1) 1 dW a0++[sE 1 (.ptr (.l 1) 1 0),sE 36 (lC (.im a1) 1 a2),sE 37 (iC a3),sE 38 (iC a4)])
def aaf m3 a0:=ST.hd 55 3 Cl n [] [m3] (bZ (.l 1) 1 dW a0++[sE 1 (.ptr (.l 1) 1 0)])
theorem akv {Cl n m0 a0 a1 a2 a3 a4}:FW Cl n (m0+1) a0 a1 a2 a3 a4=bif decide (a4 < a3) then iR lg 0 3 a2 a4 fun v8=>bif v8.1==[] then bif v8.2.1==[] then bif ae v8.2.2.1.2.length==0 then FW Cl n m0 a0 a1 a2 a3 (ao (a4+1)) else JW Cl n m0 n a0 a1 a2 a3 a4 v8 else JW Cl n m0 n a0 a1 a2 a3 a4 v8 else JW Cl n m0 n a0 a1 a2 a3 a4 v8 else afx Cl a0.1 a0.2.1.1 a0.2.1.2 a0.2.2.1.1 a0.2.2.1.2 fun v9=>c53 Cl v9.1.1 v9.1.2.1.1 v9.1.2.1.2 fun v10=>some (.one (bC v10.1),[]):=by kernel_rfl
theorem akw {Cl n m0 m1 a0 a1 a2 a3 a4 a5}:JW Cl n m0 (m1+1) a0 a1 a2 a3 a4 a5=zb Cl a0.2.1.1 a0.2.1.2 a5.1 fun v11=>bif !v11.1 then rF else zb Cl a0.2.1.1 a0.2.1.2 a5.2.1 fun v12=>bif !v12.1 then rF else bif a5.1==a5.2.1 then rF else FW Cl n m0 a0 a1 a2 a3 (ao (a4+1)):=by kernel_rfl
theorem akx {Cl n m2 a0 a1 a2 a3 a4}:JX Cl n (m2+1) a0 a1 a2 a3 a4=bif decide (a4 < a3) then iR [.str] 0 1 a2 a4 fun v4=>fF Cl v4.1 fun v5=>bif !v5.1 then rF else JX Cl n m2 a0 a1 a2 a3 (ao (a4+1)) else FW Cl n n a0 a0.2.2.1.1 a0.2.2.1.2 (ae a0.2.2.1.2.length) 0:=by kernel_rfl
theorem aky {Cl n m3 a0}:aaf Cl n (m3+1) a0=JX Cl n n a0 a0.2.1.1 a0.2.1.2 (ae a0.2.1.2.length) 0:=by kernel_rfl
theorem af6 {m x0 x1 x2 x3 x4}:Ev (fF (T m) x0 fun v0=>bif !v0.1 then rF else bif decide (ae x2.length < 2) then rF else bif decide (ae x2.length > 5) then rF else u9 (T m) x1 x2 fun v1=>bif !v1.1 then rF else bif decide (ae x4.length > 24) then rF else aaf (T m) m m (x0,(x1,x2),(x3,x4),())) (T (m+1) 55 [.agg [sC x0,lC (.im x1) 1 x2,lC (.im x3) 3 x4]] []):=aW
def xT m0 a0 a1 a2 a3 a4 a5:=ST.hd 56 0 Cl n [] [m0] ([sE 1 (sC a0)]++bZ (.l 8) 1 bm a1++[sE 8 (.ptr (.l 8) 1 0),sE 63 (lC (.im a2) 1 a3),sE 64 (iC a4),sE 65 (iC a5)])
def Ln m1 a0 a1 a2 a3 a4 a5 a6 a7:=ST.hd 56 1 Cl n [] [m1] ([sE 0 (lC (.im a0) 1 a1),sE 1 (sC a2),sE 5 (iC a3),sE 39 (lC (.im a4) 1 a5),sE 40 (iC a6),sE 41 (iC a7)])
def aaL m2 a0 a1 a2 a3:=ST.hd 56 2 Cl n [] [m2] ([sE 0 (lC (.im a0) 1 a1),sE 1 (sC a2),sE 5 (iC a3)])
def RJ m3 a0 a1 a2 a3:=ST.hd 56 3 Cl n [] [m3] ([sE 0 (lC (.im a0) 1 a1),sE 1 (sC a2),sE 5 (iC a3)])
theorem ank {Cl n m0 a0 a1 a2 a3 a4 a5}:xT Cl n (m0+1) a0 a1 a2 a3 a4 a5=bif decide (a5 < a4) then iR [.str] 0 1 a3 a5 fun v11=>du Cl a0 a1 fun v12=>bif v12.1.2.1 then du Cl v11.1 v12.2.1 fun aO=>bif aO.1.2.1 then xT Cl n m0 a0 aO.2.1 a2 a3 a4 (ao (a5+1)) else xT Cl n m0 a0 aO.2.1 a2 a3 a4 (ao (a5+1)) else du Cl v11.1 v12.2.1 fun bU=>bif bU.1.2.1 then xT Cl n m0 a0 bU.2.1 a2 a3 a4 (ao (a5+1)) else xT Cl n m0 a0 bU.2.1 a2 a3 a4 (ao (a5+1)) else c37 Cl a1 fun cy=>rS cy.1:=by kernel_rfl
theorem anl {Cl n m1 a0 a1 a2 a3 a4 a5 a6 a7}:Ln Cl n (m1+1) a0 a1 a2 a3 a4 a5 a6 a7=bif decide (a7 < a6) then iR [.str] 0 1 a5 a7 fun v4=>bif decide (ae (List.length v4.1) > ao (9223372036854775807 - a3)) then none else Ln Cl n m1 a0 a1 a2 (ao (a3+ae (List.length v4.1))) a4 a5 a6 (ao (a7+1)) else Wy Cl a3 ((),(.im true,[]),()) fun v5=>aH (a1[Int.toNat 0]?) fun o6=>gd (decide (1≤o6.length)) (cw [.str] (List.take 1 o6) fun v7=>du Cl v7.1 v5.2.1 fun v8=>bif v8.1.2.1 then gd (decide (Int.toNat 1≤a1.length)&&decide (a1.length≤a1.length)) (xT Cl n n a2 v8.2.1 a0 (List.take (a1.length - Int.toNat 1) (List.drop (1) a1)) (ae (List.take (a1.length - Int.toNat 1) (List.drop (1) a1)).length) 0) else gd (decide (Int.toNat 1≤a1.length)&&decide (a1.length≤a1.length)) (xT Cl n n a2 v8.2.1 a0 (List.take (a1.length - Int.toNat 1) (List.drop (1) a1)) (ae (List.take (a1.length - Int.toNat 1) (List.drop (1) a1)).length) 0)):=by kernel_rfl
theorem anm {Cl n m2 a0 a1 a2 a3}:aaL Cl n (m2+1) a0 a1 a2 a3=RJ Cl n n a0 a1 a2 (ao (a3+ao (ae a2.length * ao (ae a1.length - 1)))):=by kernel_rfl
theorem ano {Cl n m3 a0 a1 a2 a3}:RJ Cl n (m3+1) a0 a1 a2 a3=Ln Cl n n a0 a1 a2 a3 a0 a1 (ae a1.length) 0:=by kernel_rfl
theorem XJ {m x0 x1 x2}:Ev (bif ae x1.length==0 then rS [] else bif ae x1.length==1 then aH (x1[Int.toNat 0]?) fun o0=>gd (decide (1≤o0.length)) (cw [.str] (List.take 1 o0) fun v1=>rS v1.1) else bif decide (ae x2.length > 0) then gd (!decide (ao (ae x1.length - 1)=0)) (bif decide (ae x2.length≥ao (Int.tdiv 9223372036854775807 (ao (ae x1.length - 1)))) then none else aaL (T m) m m x0 x1 x2 0) else RJ (T m) m m x0 x1 x2 0) (T (m+1) 56 [.one (lC (.im x0) 1 x1),.one (sC x2)] []):=aW
def aal m0 a0 a1 a2 a3 a4 a5:=ST.hd 58 0 Cl n [] [m0] ([sE 3 (lC (.im a0) 1 a1),sE 6 (lC (.im a2) 4 a3),sE 7 (iC a4),sE 8 (iC a5)])
def J3 m0 a0 a1 a2 a3 a4:=ST.hd 58 0 Cl n [] [m0] ([sE 3 (lC .own 1 a0),sE 6 (lC (.im a1) 4 a2),sE 7 (iC a3),sE 8 (iC a4)])
theorem akN {Cl n m0 a0 a1 a2 a3 a4 a5}:aal Cl n (m0+1) a0 a1 a2 a3 a4 a5=bif decide (a5 < a4) then iR DF 0 4 a3 a5 fun v2=>aN (List.length v2.1+1) (Bn Cl v2.2.1 v2.2.2.1 fun v3=>aN ((v2.1++[40]).length+List.length v3.1) (aN ((v2.1++[40]++v3.1).length+2) (Et Cl v2.2.2.2.1 fun v4=>aN ((v2.1++[40]++v3.1++[41,32]).length+List.length v4.1) (gd (a0&&true&&true) (J3 Cl n m0 [[.str (v2.1++[40]++v3.1++[41,32]++v4.1)]] a2 a3 a4 (ao (a5+1))))))) else ow Cl a0 a1 [44,32] fun v5=>aN (3+List.length v5.1) (aN (([32,123,32]++v5.1).length+2) (rS ([32,123,32]++v5.1++[32,125]))):=by kernel_rfl
theorem akO {Cl n m0 a0 a1 a2 a3 a4}:J3 Cl n (m0+1) a0 a1 a2 a3 a4=bif decide (a4 < a3) then iR DF 0 4 a2 a4 fun v8=>aN (List.length v8.1+1) (Bn Cl v8.2.1 v8.2.2.1 fun v9=>aN ((v8.1++[40]).length+List.length v9.1) (aN ((v8.1++[40]++v9.1).length+2) (Et Cl v8.2.2.2.1 fun v10=>aN ((v8.1++[40]++v9.1++[41,32]).length+List.length v10.1) (gd (rO a0.length 16) (J3 Cl n m0 (a0++whole ([[D.str []]].set 0 [D.str (v8.1++[40]++v9.1++[41,32]++v10.1)])) a1 a2 a3 (ao (a4+1))))))) else gd (rL a0.length) (ow Cl false (aV (whole a0)) [44,32] fun v11=>aN (3+List.length v11.1) (aN (([32,123,32]++v11.1).length+2) (rS ([32,123,32]++v11.1++[32,125])))):=by kernel_rfl
theorem agj {m x0 x1}:Ev (aal (T m) m m true [] x0 x1 (ae x1.length) 0) (T (m+1) 58 [.one (lC (.im x0) 4 x1)] []):=aW
def Lo m0 a0 a1 a2 a3 a4:=ST.hd 53 0 Cl n [] [m0] (bZ (.l 1) 1 nD a0++[sE 1 (.ptr (.l 1) 1 0),sE 16 (lC (.im a1) 3 a2),sE 17 (iC a3),sE 18 (iC a4)])
def Gt m0 m1 a0 a1 a2 a3 a4 a5:=ST.hd 53 1 Cl n [] [m0,m1] (bZ (.l 1) 1 nD a0++[sE 1 (.ptr (.l 1) 1 0),sE 16 (lC (.im a1) 3 a2),sE 17 (iC a3),sE 18 (iC a4)]++bZ (.l 4) 1 jB a5)
def aaP m2 a0:=ST.hd 53 2 Cl n [] [m2] (bZ (.l 1) 1 nD a0++[sE 1 (.ptr (.l 1) 1 0)])
theorem ant {Cl n m0 a0 a1 a2 a3 a4}:Lo Cl n (m0+1) a0 a1 a2 a3 a4=bif decide (a4 < a3) then iR jB 0 3 a2 a4 fun v2=>bif v2.1==0 then bif !v2.2.1==[] then rF else bif decide (ae v2.2.2.1.2.length > 0) then rF else Gt Cl n m0 n a0 a1 a2 a3 a4 v2 else bif v2.1==1 then fF Cl v2.2.1 fun v3=>bif !v3.1 then rF else Wx Cl v2.2.2.1.1 v2.2.2.1.2 (ae a0.2.1.2.length) fun v4=>bif !v4.1 then rF else Gt Cl n m0 n a0 a1 a2 a3 a4 v2 else bif v2.1==2 then fF Cl v2.2.1 fun v5=>bif !v5.1 then rF else Wx Cl v2.2.2.1.1 v2.2.2.1.2 (ae a0.2.1.2.length) fun v6=>bif !v6.1 then rF else Gt Cl n m0 n a0 a1 a2 a3 a4 v2 else rF else rT:=by kernel_rfl
theorem anu {Cl n m0 m1 a0 a1 a2 a3 a4 a5}:Gt Cl n m0 (m1+1) a0 a1 a2 a3 a4 a5=Lo Cl n m0 a0 a1 a2 a3 (ao (a4+1)):=by kernel_rfl
theorem anv {Cl n m2 a0}:aaP Cl n (m2+1) a0=Lo Cl n n a0 a0.2.1.1 a0.2.1.2 (ae a0.2.1.2.length) 0:=by kernel_rfl
theorem ahO {m x0 x1 x2}:Ev (bif decide (ae x2.length < 1) then rF else bif decide (ae x2.length > 40) then rF else aaP (T m) m m (x0,(x1,x2),())) (T (m+1) 53 [.agg [sC x0,lC (.im x1) 3 x2]] []):=aW
def FY m0 a0 a1:=ST.hd 62 0 Cl n [] [m0] ([sE 0 (sC a0),sE 3 (iC a1)])
def aah m1 a0:=ST.hd 62 1 Cl n [] [m1] ([sE 0 (sC a0)])
theorem akE {Cl n m0 a0 a1}:FY Cl n (m0+1) a0 a1=bif decide (a1 < ae a0.length) then aH (cm a1) fun o3=>aH (a0[o3]?) fun o4=>aG bj (Cl 115 [.one (.d (.int .u8 (ae o4.toNat)))] []) fun v5=>bif !v5.1 then aH (cm a1) fun o6=>aH (a0[o6]?) fun o7=>aG bj (Cl 117 [.one (.d (.int .u8 (ae o7.toNat)))] []) fun v8=>bif !v8.1 then rF else FY Cl n m0 a0 (ao (a1+1)) else FY Cl n m0 a0 (ao (a1+1)) else rT:=by kernel_rfl
theorem akF {Cl n m1 a0}:aah Cl n (m1+1) a0=FY Cl n n a0 1:=by kernel_rfl
theorem aga {m x0}:Ev (bif decide (ae x0.length < 1) then rF else bif decide (ae x0.length > 12) then rF else aH (x0[Int.toNat 0]?) fun o0=>aG bj ((T m) 115 [.one (.d (.int .u8 (ae o0.toNat)))] []) fun v1=>bif !v1.1 then rF else c116 (T m) x0 fun v2=>bif v2.1 then rF else aah (T m) m m x0) (T (m+1) 62 [.one (sC x0)] []):=aW
def aaM m0 a0 a1:=ST.hd 25 0 Cl n [] [m0] ([sE 1 (iC a0)]++bZ (.l 2) 1 [.tg 6] a1++[sE 2 (.ptr (.l 2) 1 0)])
theorem anp {Cl n m0 a0 a1}:aaM Cl n (m0+1) a0 a1=zZ a1.1.1 fun t0=>gd (decide (a1.1.2.length≤a1.1.2.length)&&decide (a1.1.2.length * 2≤140737488355328)&&decide (a1.1.2.length≤9223372036854775807)&&true&&(!a1.1.2.length==0||a1.1.2.length==0)) (aG Hc (Cl 67 [.one (iC a0),.one (iC 1),pE,.one (.ptr (.e 1) 0 0),.one (.ptr (.e 2) 0 0)] [bx [.tg 6] ((t0,a1.1.2),()),bx [.tg 1] ((.own,List.replicate a1.1.2.length [D.bool false]),()),bx kA ((),())]) fun v1=>some (.one (bC v1.1),[])):=by kernel_rfl
theorem ahJ {m x0 x1 x2}:Ev (bif decide (ae x1.length > 160) then rF else bif decide (x2 < 0) then rF else bif decide (x2≥ae x1.length) then rF else aaM (T m) m m x2 ((.im x0,x1),())) (T (m+1) 25 [.one (lC (.im x0) 6 x1),.one (iC x2)] []):=aW
end
end Go.Proofs.YtfmpdgeiodnnfaaGreatDoor
