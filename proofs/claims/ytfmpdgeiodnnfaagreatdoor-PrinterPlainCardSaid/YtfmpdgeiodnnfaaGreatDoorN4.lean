/- A part of the proof. -/
import Derived.Test.YtfmpdgeiodnnfaaGreatDoorN3
set_option linter.all false
set_option maxRecDepth 100000
set_option maxHeartbeats 40000000
namespace Go.Proofs.YtfmpdgeiodnnfaaGreatDoor
open Go Go.ax
noncomputable section
variable (Cl:bX) (n:Nat)
abbrev RR:=List (List D)
abbrev BB:=List UInt8
abbrev iC (n:Int):C:=.d (.int .i64 n)
abbrev bC (b:Bool):C:=.d (.bool b)
abbrev sC (s:List UInt8):C:=.d (.str s)
abbrev lC (t:Tag) (z:Nat) (r:List (List D)):C:=.d (.sl t z r)
abbrev pE:V:=.one (.ptr (.e 0) 0 0)
abbrev ak (n:Int):Int:=IntKind.i64.wrap n
abbrev w8 (n:Int):Int:=IntKind.u8.wrap n
abbrev bY (n:Int):Int:=IntKind.u64.wrap n
abbrev OR:=Option (V×List (List C))
abbrev rT:OR:=some (.one (.d (.bool true)),[])
abbrev rF:OR:=some (.one (.d (.bool false)),[])
def iR (ds:List DS) (c n:Nat) (L:RR) (x:Int) (K:aq ds->OR):OR:=ay (bL x) λi=>rA ds c n L i K
def iV (ds:List DS) (c n:Nat) (L:RR) (x:Int) (K:aq ds->OR):OR:=ay (bL x) λi=>gd (decide (i < L.length)) (ay L[0+i]? λo=>gd (decide (c+n<=o.length)) (bR ds (List.take n (List.drop c o)) K))
@[simp] abbrev zM {A:Type}:Tag->(Bool->A)->A->A
 | .im b,f,_=>f b
 | .own,_,g=>g
@[simp] abbrev zZ {R:Type}:Tag->(Tag->Option R)->Option R
 | .im b,f=>f (.im b)
 | .own,f=>f .own
@[simp] abbrev zI:Tag->(ds:List DS)->Nat->Nat->RR->Int->(aq ds->OR)->OR
 | .im _=>iR
 | .own=>iV
@[simp] abbrev zB:Tag->Bool
 | .im b=>b
 | .own=>false
@[simp] abbrev zW:Tag->RR->RR
 | .im _,l=>l
 | .own,l=>aK (whole l)
@[simp] abbrev zR:Tag->RR->RR
 | .im _,l=>l
 | .own,l=>aK l
@[simp] abbrev zO:Tag->Bool->OR->OR
 | .im _,_,K=>K
 | .own,b,K=>gd b K
@[simp] abbrev rO (l k:Nat):Bool:=l==l&&true&&decide ((l+1) * k<=140737488355328)
@[simp] abbrev rN (l:RR):Bool:=l.length==l.length && !l.isEmpty
@[simp] abbrev rL (l:Nat):Bool:=decide (0+l<=l)
abbrev rI (x:Int):OR:=some (.one (iC x),[])
abbrev rS (x:BB):OR:=some (.one (sC x),[])
def sE (n:Nat) (x:C):Key×mO:=(.s n,⟨.one x,0⟩)
def bZ (r:aJ) (g:Nat) (ds:List DS) (p:aq ds):St:=(.r r,⟨fR ds.length,g⟩)::BT r 0 (bx ds p)
def T (n:Nat):bX:=nG pY A4 n
def evT {f:Nat} {m:Nat} {vs:List V} {bs:List (List C)} {y:OR} {r:V×List (List C)} (h:y=some r) (ht:(tp ST.fns f).isSome=true:=by kernel_rfl) (hb:Fq (ST.an f) (T m) m (ST.k f) vs bs=y:=by kernel_rfl):T (m+1) f vs bs=some r:=by
 show nG pY A4 (m+1) f vs bs=some r
 have e:pY f=some (ST.k f).fn:=by
  obtain⟨x,hx⟩:=zk.1 ht
  simp only[pY,ja.pY,hx]
 simp only[nG,e]
 exact YN (hb.trans h)
abbrev Ev (x o:OR):Prop:=∀r,x=some r->o=some r
def aR {f m:Nat} {vs:List V} {bs:List (List C)} {y:OR} (ht:(tp ST.fns f).isSome=true:=by kernel_rfl) (hb:Fq (ST.an f) (T m) m (ST.k f) vs bs=y:=by kernel_rfl):Ev y (T (m+1) f vs bs):=λ_ h=>evT h ht hb
attribute [irreducible] T
abbrev cL:List DS:=[.im 3,.im 2,.im 4]
abbrev eQ:List DS:=[.int .i64,.int .i64,.int .i64]
abbrev ez:List DS:=[.int .i64,.str,.str,.str,.str,.int .i64,.im 1,.im 3,.im 3,.int .i64]
abbrev dS:List DS:=[.str,.im 1,.im 3]
abbrev nT:List DS:=[.str,.im 3]
abbrev ah:List DS:=[.tg 1,.int .i64]
abbrev Ny:List DS:=[.im 3,.im 2,.own 4]
abbrev fG:List DS:=[.str,.im 3,.im 6,.im 10]
abbrev bp:List DS:=[.bz 82,.tg 1]
abbrev y9:List DS:=[.bz 82,.dead]
abbrev jR:List DS:=[.lr 1000000000000 [(999999,42),(999999,43)]]
abbrev lg:List DS:=[.lr 1000000000000 [(999999,47)]]
abbrev Ib:List DS:=[.str,.tg 3]
abbrev kE:List DS:=[.str,.str,.im 4]
abbrev ji:List DS:=[.int .i64,.str,.im 4]
abbrev arw:List DS:=[.ptr 0 0,.im 3,.str,.im 3,.im 6,.im 10,.str,.im 2,.int .i64,.int .i64,.int .i64]
abbrev arx:List DS:=[.ptr 0 0,.im 3,.str,.tg 3,.tg 6,.tg 10,.str,.im 2,.int .i64,.int .i64,.int .i64]
abbrev ary:List DS:=[.ptr 0 0,.im 3,.str,.tg 3,.tg 6,.own 10,.str,.im 2,.int .i64,.int .i64,.int .i64]
abbrev aN:List DS:=[.ptr 1 0,.im 3,.str,.tg 3,.tg 6,.tg 10,.str,.im 2,.int .i64,.int .i64,.int .i64]
abbrev UC:List DS:=[.ptr 1 0,.im 3,.str,.tg 3,.own 6,.tg 10,.str,.im 2,.int .i64,.int .i64,.int .i64]
abbrev UD:List DS:=[.ptr 1 0,.im 3,.str,.tg 3,.tg 6,.own 10,.str,.im 2,.int .i64,.int .i64,.int .i64]
abbrev Ep:List DS:=[.str,.int .i64,.str]
abbrev kq:List DS:=[.tg 3,.tg 2,.tg 4]
abbrev bO:List DS:=[.int .i64]
abbrev jS:List DS:=[.int .i64,.str]
abbrev Bf:List DS:=[.str,.int .i64,.str,.int .i64]
abbrev kF:List DS:=[.lr 67 [(0,0),(1,0),(2,0)]]
abbrev Nx:List DS:=[.int .i64,.str,.int .i64,.str,.int .i64,.int .i64]
abbrev bw:List DS:=[.str,.tg 1,.tg 3,.str,.tg 1]
abbrev arz:List DS:=[.str,.own 3]
abbrev arA:List DS:=[.int .i64,.str,.str,.str,.str,.int .i64,.im 1,.own 3,.im 3,.int .i64]
abbrev UE:List DS:=[.int .i64,.str,.str,.str,.str,.int .i64,.tg 1,.tg 3,.tg 3,.int .i64]
abbrev vg:List DS:=[.str,.str,.int .i64]
abbrev aeg:List DS:=[.str,.str,.tg 4]
abbrev arB:List DS:=[.int .i64,.str,.tg 4]
abbrev nq:List DS:=[.str,.tg 1,.tg 3]
abbrev arC:List DS:=[.int .i64,.str,.own 4]
abbrev Bg:List DS:=[.str,.str,.im 1]
abbrev nr:List DS:=[.lr 155 [(0,0),(1,0),(2,0)]]
abbrev tM:List DS:=[.lr 203 [(0,0),(1,0),(2,0)]]
abbrev arD:List DS:=[.str,.im 3,.sl 6,.own 10]
abbrev arE:List DS:=[.str,.own 3,.sl 6,.own 10]
abbrev arF:List DS:=[.int .i64,.str,.str,.str,.str,.int .i64,.dead,.tg 3,.tg 3,.int .i64]
abbrev arG:List DS:=[.int .i64,.str,.str,.str,.str,.int .i64,.tg 1,.dead,.tg 3,.int .i64]
abbrev oT (w:aq UC):aq aN:=((),w.2.1,w.2.2.1,w.2.2.2.1,(.own,w.2.2.2.2.1),w.2.2.2.2.2)
abbrev oS (w:aq UD):aq aN:=((),w.2.1,w.2.2.1,w.2.2.2.1,w.2.2.2.2.1,(.own,w.2.2.2.2.2.1),w.2.2.2.2.2.2)
abbrev rW (L:RR) (i c:Nat) (q:List (Nat×Nat)) (z:D):RR:=bS L i c (eo ((L.getD i []).getD c (.bool false)) q z)
abbrev rP (ds:List DS) (L:RR) (i j c:Nat) (K:aq ds->OR):OR:=ay (L[0+i]?) λo=>ay (o[3]?) λp=>ga p λz r=>gd (z==10) (ay (r[0+j]?) λo=>gd (decide (c+1<=o.length)&&true) (bR ds (List.take 1 (List.drop c o)) K))
abbrev bu:RS:=(.val (.one (.bool)) [])
abbrev dE:RS:=(.val (.one (.str)) [])
abbrev dF:RS:=(.val (.agg eQ) [])
abbrev rs4:RS:=(.val (.one (.ptr 0 0)) [ah])
abbrev H8:RS:=(.ao [(.one (.im 2)),(.one (.int .i64)),(.one (.int .i64))] [])
abbrev Uo:RS:=(.val (.one (.im 3)) [ah])
abbrev Up:RS:=(.ao [(.one (.int .i64)),.fk] [bp])
abbrev kj:RS:=(.ao [] [bp])
abbrev Um:RS:=(.val (.one (.str)) [y9])
abbrev Nq:RS:=(.val (.agg eQ) [cL])
abbrev Nr:RS:=(.val (.agg eQ) [cL,jR])
abbrev Ns:RS:=(.val (.agg eQ) [cL,lg])
abbrev arb:RS:=(.val (.one (.lr 39 [(0,0),(1,0)])) [cL,jR])
abbrev arc:RS:=(.val (.one (.lr 39 [(0,0),(1,0)])) [cL,lg])
abbrev adP:RS:=(.val (.one (.int .i64)) [ah])
abbrev de:RS:=(.val (.one (.im 1)) [])
abbrev ard:RS:=(.val (.one (.im 4)) [ah])
abbrev yX:RS:=(.val (.agg dS) [ah])
abbrev yY:RS:=(.ao [(.agg nT),(.one (.int .i64))] [])
abbrev vb:RS:=(.val (.one (.str)) [aN,ah])
abbrev HZ:RS:=(.val (.agg ez) [])
abbrev pV:RS:=(.val (.one (.int .i64)) [UC,ah])
abbrev tK:RS:=(.val (.one (.int .i64)) [UD,ah])
abbrev lG:RS:=(.ao [] [aN,ah])
abbrev iL:RS:=(.val (.one (.int .i64)) [])
abbrev adQ:RS:=(.val (.agg jS) [ah])
abbrev arf:RS:=(.val (.agg nT) [])
abbrev H0:RS:=(.val (.one (.bool)) [[.tg 6],[.tg 1],kF])
abbrev oU:RS:=(.ao [(.one (.int .i64)),(.one (.int .i64))] [bw])
abbrev tL:RS:=(.ao [(.agg ji),(.one (.int .i64))] [bw])
abbrev vd:RS:=(.val (.one (.int .i64)) [aN,ah])
abbrev yZ:RS:=(.ao [(.agg jS),(.one (.im 1)),(.one (.bool))] [bw])
abbrev Em:RS:=(.ao [(.one (.int .i64)),(.one (.str)),(.one (.int .i64))] [bw])
abbrev Bc:RS:=(.ao [(.one (.im 1)),(.one (.bool))] [bw])
abbrev adR:RS:=(.ao [(.agg dS),(.one (.str))] [aN,ah])
abbrev qK:RS:=(.ao [] [nr,[.tg 6],[.tg 1]])
abbrev En:RS:=(.ao [] [tM,[.tg 6],[.tg 1]])
abbrev adS:RS:=(.ao [] [])
abbrev la:RS:=(.val (.agg Ny) [])
abbrev ve:RS:=(.val (.agg arD) [ah])
abbrev Un:RS:=(.val (.agg arE) [ah])
abbrev adT:RS:=(.ao [(.one (.str)),(.one (.str)),(.one (.bool))] [])
abbrev Xo h0 h1 h2 h3 K:=(aA la (Cl 14 [.one (lC (.im h0) 1 h1),.one (iC h2),.one (iC h3)] []) K:OR)
abbrev ur h0 h1 h2 K:=(aA dE (Cl 15 [.one (lC (.im h0) 6 h1),.one (iC h2)] []) K:OR)
abbrev Ja h0 h1 h2 h3 h4 K:=(aA dE (Cl 19 [.agg [sC h0,lC (.im h1) 1 h2,lC (.im h3) 3 h4]] []) K:OR)
abbrev c21 h0 h1 h2 K:=(aA dE (Cl 21 [.agg [sC h0,lC (.im h1) 3 h2]] []) K:OR)
abbrev O9 h0 h1 h2 h3 h4 h5 K:=(aA dE (Cl 11 [.agg [lC (.im h0) 3 h1,lC (.im h2) 2 h3,lC (.im h4) 4 h5]] []) K:OR)
abbrev c24 h0 K:=(aA bu (Cl 24 [.one (sC h0)] []) K:OR)
abbrev BY h0 h1 h2 K:=(aA bu (Cl 25 [.one (lC (.im h0) 6 h1),.one (iC h2)] []) K:OR)
abbrev c12 h0 h1 h2 h3 h4 h5 K:=(aA dF (Cl 12 [.agg [lC (.im h0) 3 h1,lC (.im h2) 2 h3,lC (.im h4) 4 h5]] []) K:OR)
abbrev Jd h0 h1 h2 h3 h4 K:=(aA bu (Cl 26 [.agg [sC h0,lC (.im h1) 1 h2,lC (.im h3) 3 h4]] []) K:OR)
abbrev c9 K:=(aA bu (Cl 9 [] []) K:OR)
abbrev xD h0 h1 K:=(aA dE (Cl 17 [.agg [iC h0,sC h1]] []) K:OR)
abbrev Xk h0 h1 K:=(aA la (Cl 10 [.one (lC (.im h0) 1 h1)] []) K:OR)
abbrev Pj K:=(aA de (Cl 48 [] []) K:OR)
abbrev c49 K:=(aA de (Cl 49 [] []) K:OR)
abbrev ky h0 h1 h2 h3 K:=(aA kj (Cl 50 [pE,.one (lC (.im h0) 6 h1),.one (iC h2)] [bx bp h3]) K:OR)
abbrev c37 h0 K:=(aA Um (Cl 37 [pE] [bx bp h0]) K:OR)
abbrev B3 h0 K:=(aA dE (Cl 57 [.one (iC h0)] []) K:OR)
abbrev dw h0 h1 K:=(aA Up (Cl 35 [pE,.one (sC h0)] [bx bp h1]) K:OR)
abbrev xE h0 h1 K:=(aA dE (Cl 58 [.one (lC (.im h0) 4 h1)] []) K:OR)
abbrev Pk h0 h1 h2 h3 h4 K:=(aA bu (Cl 55 [.agg [sC h0,lC (.im h1) 1 h2,lC (.im h3) 3 h4]] []) K:OR)
abbrev od h0 h1 h2 K:=(aA dE (Cl 56 [.one (lC (.im h0) 1 h1),.one (sC h2)] []) K:OR)
abbrev c53 h0 h1 h2 K:=(aA bu (Cl 53 [.agg [sC h0,lC (.im h1) 3 h2]] []) K:OR)
abbrev fc h0 K:=(aA bu (Cl 62 [.one (sC h0)] []) K:OR)
abbrev XB h0 h1 h2 h3 h4 h5 h6 h7 K:=(aA kj (Cl 36 [pE,.agg [sC h0,lC (.im h1) 3 h2,lC (.im h3) 6 h4,lC (.im h5) 10 h6]] [bx bp h7]) K:OR)
abbrev c40 h0 K:=(aA Nq (Cl 40 [pE] [bx cL h0]) K:OR)
abbrev c39 h0 h1 K:=(aA Nr (Cl 39 [pE,.one (.ptr (.e 1) 0 0)] [bx cL h0,bx jR h1]) K:OR)
abbrev c44 h0 K:=(aA Nq (Cl 44 [pE] [bx cL h0]) K:OR)
abbrev agI h0 h1 K:=(aA Ns (Cl 39 [pE,.one (.ptr (.e 1) 0 0)] [bx cL h0,bx lg h1]) K:OR)
abbrev c38 h0 K:=(aA arb (Cl 38 [.one (.fn 1000000000000 [] [.fn 42 [] [],.fn 43 [] []]),pE] [bx cL h0]) K:OR)
abbrev agH h0 K:=(aA arc (Cl 38 [.one (.fn 1000000000000 [] [.fn 47 [] []]),pE] [bx cL h0]) K:OR)
abbrev Je h0 h1 h2 K:=(aA bu (Cl 71 [.one (lC (.im h0) 1 h1),.one (sC h2)] []) K:OR)
abbrev c72 h0 h1 h2 K:=(aA bu (Cl 72 [.one (lC (.im h0) 4 h1),.one (iC h2)] []) K:OR)
abbrev B4 h0 K:=(aA bu (Cl 64 [.one (sC h0)] []) K:OR)
abbrev c70 h0 h1 K:=(aA bu (Cl 70 [.one (lC (.im h0) 1 h1)] []) K:OR)
abbrev BZ h0 h1 h2 h3 h4 K:=(aA H8 (Cl 32 [.agg [sC h0,lC (.im h1) 1 h2,lC (.im h3) 3 h4]] []) K:OR)
abbrev Ph h0 h1 h2 K:=(aA ve (Cl 34 [pE,.one (lC (.im h0) 3 h1)] [bx ah h2]) K:OR)
abbrev Pg h0 h1 h2 h3 h4 h5 h6 h7 h8 h9 cz fT K:=(aA Un (Cl 33 [pE,.one (lC (.im h0) 3 h1),.agg [sC h2,lC (.im h3) 1 h4,lC (.im h5) 3 h6],.one (lC (.im h7) 2 h8),.one (iC h9),.one (sC cz)] [bx ah fT]) K:OR)
abbrev c28 h0 h1 K:=(aA rs4 (Cl 28 [.one (lC (.im h0) 1 h1)] []) K:OR)
abbrev c31 h0 K:=(aA Uo (Cl 31 [pE] [bx ah h0]) K:OR)
abbrev Xl h0 h1 h2 h3 h4 h5 K:=(aA dE (Cl 102 [.agg [iC h0,sC h1,iC h2,sC h3,iC h4,iC h5]] []) K:OR)
abbrev BV h0 K:=(aA dE (Cl 103 [.one (iC h0)] []) K:OR)
abbrev O7 h0 K:=(aA dE (Cl 104 [.one (iC h0)] []) K:OR)
abbrev agB h0 h1 h2 h3 h4 K:=(aA arf (Cl 111 [.agg [sC h0,lC (.im h1) 1 h2,lC (.im h3) 3 h4]] []) K:OR)
abbrev zG h0 h1 h2 K:=(aA bu (Cl 110 [.one (lC (.im h0) 1 h1),.one (sC h2)] []) K:OR)
abbrev vK h0 h1 K:=(aA bu (Cl 95 [.one (lC (.im h0) 1 h1)] []) K:OR)
abbrev Xm h0 h1 K:=(aA kj (Cl 112 [pE,.one (iC h0)] [bx bp h1]) K:OR)
abbrev c91 h0 K:=(aA kj (Cl 91 [pE] [bx bp h0]) K:OR)
abbrev O8 h0 h1 h2 K:=(aA bu (Cl 108 [.one (lC (.im h0) 4 h1),.one (iC h2)] []) K:OR)
abbrev c116 h0 K:=(aA bu (Cl 116 [.one (sC h0)] []) K:OR)
abbrev iq h0 h1 h2 K:=(aA kj (Cl 92 [pE,.one (iC h0),.one (sC h1)] [bx bp h2]) K:OR)
abbrev c93 h0 h1 h2 h3 h4 h5 h6 h7 h8 h9 K:=(aA kj (Cl 93 [pE,.agg [sC h0,lC (.im h1) 3 h2,lC (.im h3) 6 h4,lC (.im h5) 10 h6],.one (iC h7),.one (iC h8)] [bx bp h9]) K:OR)
abbrev c68 h0 K:=(aA iL (Cl 68 [.one (iC h0)] []) K:OR)
abbrev XG h0 h1 h2 h3 h4 h5 K:=(aA bu (Cl 69 [.agg [iC h0,sC h1,iC h2,sC h3,iC h4,iC h5]] []) K:OR)
abbrev XC h0 h1 h2 h3 h4 h5 K:=(aA dF (Cl 41 [.agg [lC (.im h0) 3 h1,lC (.im h2) 2 h3,lC (.im h4) 4 h5]] []) K:OR)
abbrev XD h0 h1 h2 h3 h4 h5 h6 K:=(aA dF (Cl 42 [.agg [lC (.im h0) 3 h1,lC (.im h2) 2 h3,lC (.im h4) 4 h5],.one (iC h6)] []) K:OR)
abbrev XE h0 h1 h2 h3 h4 h5 h6 K:=(aA dF (Cl 43 [.agg [lC (.im h0) 3 h1,lC (.im h2) 2 h3,lC (.im h4) 4 h5],.one (iC h6)] []) K:OR)
abbrev Fe h0 h1 h2 h3 h4 h5 h6 K:=(aA iL (Cl 45 [.agg [lC (.im h0) 3 h1,lC (.im h2) 2 h3,lC (.im h4) 4 h5],.one (sC h6)] []) K:OR)
abbrev c46 h0 h1 h2 K:=(aA dF (Cl 46 [.one (iC h0),.one (iC h1),.one (iC h2)] []) K:OR)
abbrev XF h0 h1 h2 h3 h4 h5 h6 K:=(aA dF (Cl 47 [.agg [lC (.im h0) 3 h1,lC (.im h2) 2 h3,lC (.im h4) 4 h5],.one (iC h6)] []) K:OR)
abbrev c119 h0 K:=(aA bu (Cl 119 [.one (sC h0)] []) K:OR)
abbrev c127 h0 h1 h2 K:=(aA iL (Cl 127 [.one (lC (.im h0) 1 h1),.one (sC h2)] []) K:OR)
abbrev c54 h0 h1 K:=(aA bu (Cl 54 [.agg [iC h0,sC h1]] []) K:OR)
abbrev c80 h0 h1 h2 h3 K:=(aA yX (Cl 80 [pE,.one (sC h0),.one (lC (.im h1) 1 h2)] [bx ah h3]) K:OR)
abbrev eb h0 h1 K:=(aA adP (Cl 73 [pE,.one (iC h0)] [bx ah h1]) K:OR)
abbrev XH h0 h1 h2 h3 h4 K:=(aA de (Cl 81 [.agg [sC h0,lC (.im h1) 1 h2,lC (.im h3) 3 h4]] []) K:OR)
abbrev Pm h0 h1 h2 h3 h4 h5 K:=(aA yY (Cl 82 [.agg [sC h0,lC (.im h1) 1 h2,lC (.im h3) 3 h4],.one (sC h5)] []) K:OR)
abbrev c85 h0 h1 h2 h3 h4 h5 h6 h7 K:=(aA vb (Cl 85 [pE,.agg [sC h0,lC (.im h1) 1 h2,lC (.im h3) 3 h4],.one (sC h5)] [bx aN h6,bx ah h7]) K:OR)
abbrev kz h0 K:=(aA HZ (Cl 86 [.one (iC h0)] []) K:OR)
abbrev B5 h0 h1 h2 h3 h4 h5 K:=(aA dE (Cl 83 [.agg [sC h0,lC (.im h1) 1 h2,lC (.im h3) 3 h4],.one (sC h5)] []) K:OR)
abbrev c87 h0 h1 h2 K:=(aA pV (Cl 87 [pE,.one (sC h0)] [bx aN h1,bx ah h2]) K:OR)
abbrev py h0 h1 h2 K:=(aA pV (Cl 88 [pE,.one (iC h0)] [bx aN h1,bx ah h2]) K:OR)
abbrev Jf h0 h1 h2 h3 h4 h5 h6 h7 h8 h9 cz fT gl lO K:=(aA tK (Cl 89 [pE,.agg [iC h0,sC h1,sC h2,sC h3,sC h4,iC h5,lC .own 1 h6,lC (.im h7) 3 h8,lC (.im h9) 3 cz,iC fT]] [bx aN gl,bx ah lO]) K:OR)
abbrev Pn h0 h1 h2 h3 h4 h5 h6 h7 h8 h9 cz fT gl lO K:=(aA tK (Cl 90 [pE,.agg [iC h0,sC h1,sC h2,sC h3,sC h4,iC h5,lC .own 1 h6,lC (.im h7) 3 h8,lC (.im h9) 3 cz,iC fT]] [bx aN gl,bx ah lO]) K:OR)
abbrev Ff h0 h1 h2 h3 K:=(aA lG (Cl 84 [pE,.one (iC h0),.one (iC h1)] [bx aN h2,bx ah h3]) K:OR)
abbrev c159 h0 h1 K:=(aA dE (Cl 159 [.one (iC h0),.one (iC h1)] []) K:OR)
abbrev c160 h0 K:=(aA dE (Cl 160 [.one (bC h0)] []) K:OR)
abbrev Xt h0 K:=(aA dE (Cl 161 [.one (sC h0)] []) K:OR)
abbrev c152 h0 h1 h2 K:=(aA iL (Cl 152 [.one (lC (.im h0) 1 h1),.one (sC h2)] []) K:OR)
abbrev agD h0 h1 K:=(aA bu (Cl 165 [.agg [iC h0,sC h1]] []) K:OR)
abbrev agC h0 h1 K:=(aA dE (Cl 149 [.one (sC h0),.one (iC h1)] []) K:OR)
abbrev BX h0 h1 h2 h3 h4 h5 h6 h7 h8 K:=(aA dE (Cl 150 [.agg [sC h0,lC (.im h1) 3 h2,lC (.im h3) 6 h4,lC (.im h5) 10 h6],.one (lC (.im h7) 1 h8)] []) K:OR)
abbrev Xq h0 h1 h2 h3 h4 h5 h6 h7 h8 h9 cz fT gl lO sR FE FF FG Aa QA K:=(aA dE (Cl 151 [.agg [sC h0,lC (.im h1) 3 h2,lC (.im h3) 6 h4,lC (.im h5) 10 h6],.agg [iC h7,sC h8,sC h9,sC cz,sC fT,iC gl,lC (.im lO) 1 sR,lC (.im FE) 3 FF,lC (.im FG) 3 Aa,iC QA]] []) K:OR)
abbrev Po h0 h1 K:=(aA bu (Cl 94 [.agg [iC h0,sC h1]] []) K:OR)
abbrev XK h0 h1 h2 h3 h4 h5 h6 h7 h8 h9 cz fT gl K:=(aA bu (Cl 96 [.agg [iC h0,sC h1,sC h2,sC h3,sC h4,iC h5,lC (.im h6) 1 h7,lC (.im h8) 3 h9,lC (.im cz) 3 fT,iC gl]] []) K:OR)
abbrev XL h0 h1 h2 K:=(aA de (Cl 99 [.one (lC (.im h0) 6 h1),.one (iC h2)] []) K:OR)
abbrev Pp h0 h1 h2 h3 h4 h5 h6 h7 h8 h9 cz fT gl K:=(aA de (Cl 98 [.agg [iC h0,sC h1,sC h2,sC h3,sC h4,iC h5,lC (.im h6) 1 h7,lC (.im h8) 3 h9,lC (.im cz) 3 fT,iC gl]] []) K:OR)
abbrev B6 h0 h1 h2 h3 h4 h5 h6 h7 h8 h9 cz fT gl K:=(aA de (Cl 97 [.agg [iC h0,sC h1,sC h2,sC h3,sC h4,iC h5,lC (.im h6) 1 h7,lC (.im h8) 3 h9,lC (.im cz) 3 fT,iC gl]] []) K:OR)
abbrev I9 h0 h1 h2 h3 h4 h5 h6 h7 h8 h9 cz fT gl lO sR FE FF FG Aa QA h20 h21 h22 h23 cG h25 h26 h27 K:=(aA iL (Cl 100 [.agg [lC (.im h0) 3 h1,lC (.im h2) 2 h3,lC (.im h4) 4 h5],.agg [sC h6,lC (.im h7) 3 h8,lC (.im h9) 6 cz,lC (.im fT) 10 gl],.agg [iC lO,sC sR,sC FE,sC FF,sC FG,iC Aa,lC (.im QA) 1 h20,lC (.im h21) 3 h22,lC (.im h23) 3 cG,iC h25],.one (lC (.im h26) 1 h27)] []) K:OR)
abbrev zF h0 h1 h2 h3 h4 h5 h6 h7 h8 h9 cz fT gl K:=(aA de (Cl 101 [.agg [iC h0,sC h1,sC h2,sC h3,sC h4,iC h5,lC (.im h6) 1 h7,lC (.im h8) 3 h9,lC (.im cz) 3 fT,iC gl]] []) K:OR)
abbrev c109 h0 K:=(aA bu (Cl 109 [.one (sC h0)] []) K:OR)
abbrev Xn h0 h1 h2 h3 K:=(aA yX (Cl 137 [pE,.one (sC h0),.one (lC (.im h1) 1 h2)] [bx ah h3]) K:OR)
abbrev c138 h0 h1 h2 h3 h4 K:=(aA yX (Cl 138 [pE,.one (sC h0),.one (iC h1),.one (lC (.im h2) 1 h3)] [bx ah h4]) K:OR)
abbrev Pb h0 h1 h2 K:=(aA tL (Cl 140 [pE,.one (lC (.im h0) 1 h1)] [bx bw h2]) K:OR)
abbrev c139 h0 h1 h2 K:=(aA oU (Cl 139 [pE,.one (lC (.im h0) 1 h1)] [bx bw h2]) K:OR)
abbrev uu h0 h1 h2 h3 h4 h5 h6 h7 h8 h9 cz fT gl lO sR K:=(aA tK (Cl 90 [pE,.agg [iC h0,sC h1,sC h2,sC h3,sC h4,iC h5,lC (.im h6) 1 h7,lC (.im h8) 3 h9,lC (.im cz) 3 fT,iC gl]] [bx aN lO,bx ah sR]) K:OR)
abbrev XJ h0 h1 h2 h3 h4 h5 h6 h7 h8 h9 cz fT gl lO K:=(aA tK (Cl 90 [pE,.agg [iC h0,sC h1,sC h2,sC h3,sC h4,iC h5,lC (.im h6) 1 h7,lC .own 3 h8,lC (.im h9) 3 cz,iC fT]] [bx aN gl,bx ah lO]) K:OR)
abbrev c146 h0 h1 K:=(aA vb (Cl 146 [pE] [bx aN h0,bx ah h1]) K:OR)
abbrev xC h0 h1 h2 h3 h4 h5 h6 h7 K:=(aA pV (Cl 147 [pE,.agg [iC h0,sC h1,iC h2,sC h3,iC h4,iC h5]] [bx aN h6,bx ah h7]) K:OR)
abbrev qV h0 h1 h2 h3 h4 h5 h6 h7 h8 h9 cz fT gl lO sR K:=(aA tK (Cl 89 [pE,.agg [iC h0,sC h1,sC h2,sC h3,sC h4,iC h5,lC (.im h6) 1 h7,lC (.im h8) 3 h9,lC (.im cz) 3 fT,iC gl]] [bx aN lO,bx ah sR]) K:OR)
abbrev c145 h0 h1 h2 h3 h4 K:=(aA vd (Cl 145 [pE,.one (iC h0),.one (iC h1),.one (iC h2)] [bx aN h3,bx ah h4]) K:OR)
abbrev c141 h0 h1 h2 K:=(aA vd (Cl 141 [pE,.one (bC h0)] [bx aN h1,bx ah h2]) K:OR)
abbrev Xp h0 h1 K:=(aA lG (Cl 142 [pE] [bx aN h0,bx ah h1]) K:OR)
abbrev c143 h0 h1 h2 h3 K:=(aA lG (Cl 143 [pE,.one (iC h0),.one (iC h1)] [bx aN h2,bx ah h3]) K:OR)
abbrev sI h0 h1 h2 h3 h4 K:=(aA pV (Cl 144 [pE,.one (iC h0),.one (iC h1),.one (iC h2)] [bx aN h3,bx ah h4]) K:OR)
abbrev c206 h0 K:=(aA dE (Cl 206 [.one (bC h0)] []) K:OR)
abbrev agE h0 h1 K:=(aA adT (Cl 207 [.one (sC h0),.one (sC h1)] []) K:OR)
abbrev c154 h0 h1 h2 h3 h4 h5 h6 h7 h8 h9 cz fT gl K:=(aA bu (Cl 154 [.agg [iC h0,sC h1,sC h2,sC h3,sC h4,iC h5,lC (.im h6) 1 h7,lC (.im h8) 3 h9,lC (.im cz) 3 fT,iC gl]] []) K:OR)
abbrev Xr h0 h1 h2 h3 h4 h5 h6 h7 h8 h9 cz fT gl K:=(aA HZ (Cl 153 [.agg [iC h0,sC h1,sC h2,sC h3,sC h4,iC h5,lC (.im h6) 1 h7,lC (.im h8) 3 h9,lC (.im cz) 3 fT,iC gl]] []) K:OR)
abbrev Pa h0 K:=(aA bu (Cl 132 [.one (iC h0)] []) K:OR)
abbrev c157 h0 h1 h2 h3 h4 h5 h6 h7 K:=(aA bu (Cl 157 [.agg [lC (.im h0) 3 h1,lC (.im h2) 2 h3,lC (.im h4) 4 h5],.one (sC h6),.one (iC h7)] []) K:OR)
abbrev Xs h0 h1 h2 h3 h4 h5 h6 h7 h8 h9 cz fT gl lO sR FE FF FG Aa K:=(aA bu (Cl 158 [.agg [lC (.im h0) 3 h1,lC (.im h2) 2 h3,lC (.im h4) 4 h5],.agg [iC h6,sC h7,sC h8,sC h9,sC cz,iC fT,lC (.im gl) 1 lO,lC (.im sR) 3 FE,lC (.im FF) 3 FG,iC Aa]] []) K:OR)
abbrev c156 h0 h1 h2 K:=(aA de (Cl 156 [.one (lC (.im h0) 6 h1),.one (iC h2)] []) K:OR)
abbrev Xu h0 h1 h2 h3 h4 K:=(aA yX (Cl 188 [pE,.one (sC h0),.one (iC h1),.one (lC (.im h2) 1 h3)] [bx ah h4]) K:OR)
abbrev c74 h0 h1 h2 h3 K:=(aA ard (Cl 74 [pE,.one (lC (.im h0) 1 h1),.one (iC h2)] [bx ah h3]) K:OR)
abbrev Xw h0 h1 h2 h3 K:=(aA bu (Cl 192 [.one (lC (.im h0) 1 h1),.one (lC (.im h2) 1 h3)] []) K:OR)
abbrev Xv h0 h1 h2 h3 h4 h5 h6 K:=(aA bu (Cl 191 [.agg [sC h0,lC (.im h1) 1 h2,lC (.im h3) 3 h4],.one (sC h5),.one (iC h6)] []) K:OR)
abbrev Pd h0 h1 h2 h3 h4 h5 h6 h7 K:=(aA de (Cl 189 [.agg [sC h0,lC (.im h1) 1 h2,lC (.im h3) 3 h4],.one (sC h5),.one (lC (.im h6) 1 h7)] []) K:OR)
abbrev Pe h0 h1 h2 h3 h4 h5 h6 h7 K:=(aA de (Cl 190 [.agg [sC h0,lC (.im h1) 1 h2,lC (.im h3) 3 h4],.one (sC h5),.one (lC (.im h6) 1 h7)] []) K:OR)
abbrev Jb h0 h1 h2 h3 K:=(aA yZ (Cl 195 [pE,.one (lC (.im h0) 1 h1),.one (sC h2)] [bx bw h3]) K:OR)
abbrev c193 h0 h1 h2 K:=(aA Em (Cl 193 [pE,.one (lC (.im h0) 1 h1)] [bx bw h2]) K:OR)
abbrev c194 h0 h1 h2 K:=(aA Bc (Cl 194 [pE,.one (lC (.im h0) 1 h1)] [bx bw h2]) K:OR)
abbrev I' h0 K:=(aA dE (Cl 114 [.one (iC h0)] []) K:OR)
abbrev XI h0 h1 h2 h3 h4 h5 h6 h7 h8 h9 cz fT gl lO K:=(aA tK (Cl 89 [pE,.agg [iC h0,sC h1,sC h2,sC h3,sC h4,iC h5,lC (.im h6) 1 h7,lC .own 3 h8,lC (.im h9) 3 cz,iC fT]] [bx aN gl,bx ah lO]) K:OR)
abbrev c196 h0 h1 K:=(aA pV (Cl 196 [pE] [bx aN h0,bx ah h1]) K:OR)
abbrev Xx h0 h1 h2 h3 h4 K:=(aA lG (Cl 197 [pE,.one (sC h0),.agg [iC h1,sC h2]] [bx aN h3,bx ah h4]) K:OR)
abbrev c198 h0 h1 h2 K:=(aA adR (Cl 198 [pE,.one (sC h0)] [bx aN h1,bx ah h2]) K:OR)
abbrev Xy h0 h1 h2 K:=(aA pV (Cl 199 [pE,.one (iC h0)] [bx aN h1,bx ah h2]) K:OR)
abbrev agF h0 h1 K:=(aA adT (Cl 230 [.one (sC h0),.one (sC h1)] []) K:OR)
abbrev Xz h0 h1 K:=(aA adS (Cl 204 [.one (lC (.im h0) 1 h1)] []) K:OR)
abbrev XA h0 h1 K:=(aA de (Cl 205 [.one (lC (.im h0) 1 h1)] []) K:OR)
abbrev O' h0 h1 h2 K:=(aA adQ (Cl 128 [pE,.one (lC (.im h0) 1 h1)] [bx ah h2]) K:OR)
abbrev Pc h0 K:=(aA adQ (Cl 184 [pE] [bx ah h0]) K:OR)
abbrev Jc h0 h1 h2 h3 h4 K:=(aA bu (Cl 223 [.agg [sC h0,sC h1,lC (.im h2) 4 h3],.one (sC h4)] []) K:OR)
abbrev c218 h0 h1 h2 K:=(aA de (Cl 218 [.one (lC (.im h0) 1 h1),.one (sC h2)] []) K:OR)
abbrev Pf h0 h1 h2 K:=(aA iL (Cl 224 [.one (lC (.im h0) 4 h1),.one (sC h2)] []) K:OR)
abbrev agG h0 h1 K:=(aA iL (Cl 247 [.one (sC h0),.one (sC h1)] []) K:OR)
abbrev c236 h0 h1 h2 K:=(aA de (Cl 236 [.one (lC (.im h0) 1 h1),.one (sC h2)] []) K:OR)
def kR {A:Sort _} {a b:A} (h:a=b:=by kernel_rfl):a=b:=h
def KU m0 a0 a1 a2 a3 a4 a5 a6 a7 a8:=ST.hd 6 0 Cl n [] [m0] ([sE 0 (lC (.im a0) 6 a1),sE 1 (iC a2),sE 4 (lC (.im a3) 1 a4),sE 5 (iC a5),sE 6 (iC a6)]++bZ (.l 9) 1 dS a7++[sE 9 (.ptr (.l 9) 1 0)]++bZ (.l 10) 1 nT a8++[sE 10 (.ptr (.l 10) 1 0)])
def lB m0 a0 a1:=ST.hd 14 0 Cl n [] [m0] (bZ (.l 6) 1 cL a0++[sE 6 (.ptr (.l 6) 1 0)]++bZ (.l 7) 1 Ny a1++[sE 7 (.ptr (.l 7) 1 0)])
def qy m0 a0 a1 a2 a3 a4:=ST.hd 19 0 Cl n [] [m0] (bZ (.l 10) 1 bp a0++[sE 3 (.ptr (.l 10) 1 0),sE 23 (lC (.im a1) 3 a2),sE 24 (iC a3),sE 25 (iC a4)])
def kX m0 a0 a1 a2 a3 a4:=ST.hd 21 0 Cl n [] [m0] (bZ (.l 16) 1 bp a0++[sE 3 (.ptr (.l 16) 1 0),sE 24 (lC (.im a1) 3 a2),sE 25 (iC a3),sE 26 (iC a4)])
def KL m1 a0:=ST.hd 21 1 Cl n [] [m1] (bZ (.l 1) 1 nT a0++[sE 1 (.ptr (.l 1) 1 0)])
def KM m0 a0 a1 a2 a3 a4:=ST.hd 11 0 Cl n [] [m0] (bZ (.l 15) 1 bp a0++[sE 3 (.ptr (.l 15) 1 0),sE 41 (lC (.im a1) 4 a2),sE 42 (iC a3),sE 43 (iC a4)])
def Dm m1 a0 a1 a2 a3 a4 a5:=ST.hd 11 1 Cl n [] [m1] (bZ (.l 1) 1 cL a0++[sE 1 (.ptr (.l 1) 1 0)]++bZ (.l 15) 1 bp a1++[sE 3 (.ptr (.l 15) 1 0),sE 29 (lC (.im a2) 2 a3),sE 30 (iC a4),sE 31 (iC a5)])
def GX m2 a0 a1 a2 a3 a4 a5:=ST.hd 11 2 Cl n [] [m2] (bZ (.l 1) 1 cL a0++[sE 1 (.ptr (.l 1) 1 0)]++bZ (.l 15) 1 bp a1++[sE 3 (.ptr (.l 15) 1 0),sE 17 (lC (.im a2) 3 a3),sE 18 (iC a4),sE 19 (iC a5)])
def Dr m0 a0 a1:=ST.hd 24 0 Cl n [] [m0] ([sE 0 (sC a0),sE 3 (iC a1)])
def abf m0 a0 a1:=ST.hd 25 0 Cl n [] [m0] ([sE 1 (iC a0)]++bZ (.l 2) 1 [.tg 6] a1++[sE 2 (.ptr (.l 2) 1 0)])
def LC m0 a0 a1 a2 a3:=ST.hd 12 0 Cl n [] [m0] (bZ (.l 1) 1 cL a0++bZ (.l 2) 1 eQ a1++[sE 2 (.ptr (.l 2) 1 0)]++bZ (.l 12) 1 jR a2++bZ (.l 16) 1 lg a3++[sE 18 (.fn 1000000000000 [] [.fn 40 [] [.ptr (.l 1) 1 0],.fn 39 [] [.ptr (.l 1) 1 0,.ptr (.l 12) 1 0],.fn 44 [] [.ptr (.l 1) 1 0],.fn 39 [] [.ptr (.l 1) 1 0,.ptr (.l 16) 1 0]]),sE 19 (iC 4),sE 20 (iC 0)])
def SM m0 a0 a1 a2 a3:=ST.hd 12 0 Cl n [] [m0] (bZ (.l 1) 1 cL a0++bZ (.l 2) 1 eQ a1++[sE 2 (.ptr (.l 2) 1 0)]++bZ (.l 12) 1 jR a2++bZ (.l 16) 1 lg a3++[sE 18 (.fn 1000000000000 [] [.fn 40 [] [.ptr (.l 1) 1 0],.fn 39 [] [.ptr (.l 1) 1 0,.ptr (.l 12) 1 0],.fn 44 [] [.ptr (.l 1) 1 0],.fn 39 [] [.ptr (.l 1) 1 0,.ptr (.l 16) 1 0]]),sE 19 (iC 4),sE 20 (iC 1)])
def aa7 m0 a0 a1 a2 a3:=ST.hd 12 0 Cl n [] [m0] (bZ (.l 1) 1 cL a0++bZ (.l 2) 1 eQ a1++[sE 2 (.ptr (.l 2) 1 0)]++bZ (.l 12) 1 jR a2++bZ (.l 16) 1 lg a3++[sE 18 (.fn 1000000000000 [] [.fn 40 [] [.ptr (.l 1) 1 0],.fn 39 [] [.ptr (.l 1) 1 0,.ptr (.l 12) 1 0],.fn 44 [] [.ptr (.l 1) 1 0],.fn 39 [] [.ptr (.l 1) 1 0,.ptr (.l 16) 1 0]]),sE 19 (iC 4),sE 20 (iC 2)])
def SN m0 a0 a1 a2 a3:=ST.hd 12 0 Cl n [] [m0] (bZ (.l 1) 1 cL a0++bZ (.l 2) 1 eQ a1++[sE 2 (.ptr (.l 2) 1 0)]++bZ (.l 12) 1 jR a2++bZ (.l 16) 1 lg a3++[sE 18 (.fn 1000000000000 [] [.fn 40 [] [.ptr (.l 1) 1 0],.fn 39 [] [.ptr (.l 1) 1 0,.ptr (.l 12) 1 0],.fn 44 [] [.ptr (.l 1) 1 0],.fn 39 [] [.ptr (.l 1) 1 0,.ptr (.l 16) 1 0]]),sE 19 (iC 4),sE 20 (iC 3)])
def aa8 m0 a0 a1 a2 a3:=ST.hd 12 0 Cl n [] [m0] (bZ (.l 1) 1 cL a0++bZ (.l 2) 1 eQ a1++[sE 2 (.ptr (.l 2) 1 0)]++bZ (.l 12) 1 jR a2++bZ (.l 16) 1 lg a3++[sE 18 (.fn 1000000000000 [] [.fn 40 [] [.ptr (.l 1) 1 0],.fn 39 [] [.ptr (.l 1) 1 0,.ptr (.l 12) 1 0],.fn 44 [] [.ptr (.l 1) 1 0],.fn 39 [] [.ptr (.l 1) 1 0,.ptr (.l 16) 1 0]]),sE 19 (iC 4),sE 20 (iC 4)])
def Li m0 a0 a1:=ST.hd 26 0 Cl n [] [m0] (bZ (.l 1) 1 dS a0++[sE 1 (.ptr (.l 1) 1 0),sE 4 (iC a1)])
def AJ m0 m1 a0 a1 a2:=ST.hd 26 1 Cl n [] [m0,m1] (bZ (.l 1) 1 dS a0++[sE 1 (.ptr (.l 1) 1 0),sE 4 (iC a1)]++bZ (.l 5) 1 kE a2++[sE 5 (.ptr (.l 5) 1 0)])
def Dw m0 m2 a0 a1 a2:=ST.hd 26 2 Cl n [] [m0,m2] (bZ (.l 1) 1 dS a0++[sE 1 (.ptr (.l 1) 1 0),sE 4 (iC a1)]++bZ (.l 5) 1 kE a2)
def Lj m3 a0 a1:=ST.hd 26 3 Cl n [] [m3] (bZ (.l 1) 1 dS a0++[sE 1 (.ptr (.l 1) 1 0),sE 3 (iC a1)])
def aa4 m4 a0:=ST.hd 26 4 Cl n [] [m4] (bZ (.l 1) 1 dS a0++[sE 1 (.ptr (.l 1) 1 0)])
def GY m0 a0 a1 a2 a3:=ST.hd 10 0 Cl n [] [m0] (bZ (.l 2) 1 cL a0++[sE 2 (.ptr (.l 2) 1 0)]++bZ (.l 11) 1 ah a1++[sE 3 (.ptr (.l 11) 1 0)]++bZ (.l 4) 1 cL a2++[sE 4 (.ptr (.l 4) 1 0),sE 5 (iC a3)])
def Ds m0 a0 a1 a2 a3:=ST.hd 10 0 Cl n [] [m0] (bZ (.l 2) 1 cL a0++[sE 2 (.ptr (.l 2) 1 0)]++bZ (.l 11) 1 ah a1++[sE 3 (.ptr (.l 11) 1 0)]++bZ (.l 4) 1 Ny a2++[sE 4 (.ptr (.l 4) 1 0),sE 5 (iC a3)])
def GZ m0 m1 a0 a1 a2 a3 a4 a5 a6:=ST.hd 10 1 Cl n [] [m0,m1] (bZ (.l 2) 1 cL a0++[sE 2 (.ptr (.l 2) 1 0)]++bZ (.l 11) 1 ah a1++[sE 3 (.ptr (.l 11) 1 0)]++bZ (.l 4) 1 cL a2++[sE 4 (.ptr (.l 4) 1 0),sE 5 (iC a3),sE 6 (lC (.im a4) 2 a5),sE 9 (iC a6)])
def G0 m0 m1 a0 a1 a2 a3 a4 a5 a6:=ST.hd 10 1 Cl n [] [m0,m1] (bZ (.l 2) 1 cL a0++[sE 2 (.ptr (.l 2) 1 0)]++bZ (.l 11) 1 ah a1++[sE 3 (.ptr (.l 11) 1 0)]++bZ (.l 4) 1 Ny a2++[sE 4 (.ptr (.l 4) 1 0),sE 5 (iC a3),sE 6 (lC (.im a4) 2 a5),sE 9 (iC a6)])
def GO m0 a0 a1 a2 a3 a4:=ST.hd 55 0 Cl n [] [m0] (bZ (.l 1) 1 dS a0++[sE 1 (.ptr (.l 1) 1 0),sE 47 (lC (.im a1) 3 a2),sE 48 (iC a3),sE 49 (iC a4)])
def GQ m0 m1 a0 a1 a2 a3 a4 a5:=ST.hd 55 1 Cl n [] [m0,m1] (bZ (.l 1) 1 dS a0++[sE 1 (.ptr (.l 1) 1 0),sE 47 (lC (.im a1) 3 a2),sE 48 (iC a3),sE 49 (iC a4)]++bZ (.l 6) 1 kE a5++[sE 6 (.ptr (.l 6) 1 0)])
def KG m2 a0 a1 a2 a3 a4:=ST.hd 55 2 Cl n [] [m2] (bZ (.l 1) 1 dS a0++[sE 1 (.ptr (.l 1) 1 0),sE 36 (lC (.im a1) 1 a2),sE 37 (iC a3),sE 38 (iC a4)])
def aaI m3 a0:=ST.hd 55 3 Cl n [] [m3] (bZ (.l 1) 1 dS a0++[sE 1 (.ptr (.l 1) 1 0)])
def yB m0 a0 a1 a2 a3 a4 a5:=ST.hd 56 0 Cl n [] [m0] ([sE 1 (sC a0)]++bZ (.l 8) 1 bp a1++[sE 8 (.ptr (.l 8) 1 0),sE 63 (lC (.im a2) 1 a3),sE 64 (iC a4),sE 65 (iC a5)])
def Mj m1 a0 a1 a2 a3 a4 a5 a6 a7:=ST.hd 56 1 Cl n [] [m1] ([sE 0 (lC (.im a0) 1 a1),sE 1 (sC a2),sE 5 (iC a3),sE 39 (lC (.im a4) 1 a5),sE 40 (iC a6),sE 41 (iC a7)])
def abe m2 a0 a1 a2 a3:=ST.hd 56 2 Cl n [] [m2] ([sE 0 (lC (.im a0) 1 a1),sE 1 (sC a2),sE 5 (iC a3)])
def SO m3 a0 a1 a2 a3:=ST.hd 56 3 Cl n [] [m3] ([sE 0 (lC (.im a0) 1 a1),sE 1 (sC a2),sE 5 (iC a3)])
def KP m0 a0 a1 a2 a3 a4 a5:=ST.hd 58 0 Cl n [] [m0] ([sE 3 (lC (.im a0) 1 a1),sE 6 (lC (.im a2) 4 a3),sE 7 (iC a4),sE 8 (iC a5)])
def Dn m0 a0 a1 a2 a3 a4:=ST.hd 58 0 Cl n [] [m0] ([sE 3 (lC .own 1 a0),sE 6 (lC (.im a1) 4 a2),sE 7 (iC a3),sE 8 (iC a4)])
def Mk m0 a0 a1 a2 a3 a4:=ST.hd 53 0 Cl n [] [m0] (bZ (.l 1) 1 nT a0++[sE 1 (.ptr (.l 1) 1 0),sE 16 (lC (.im a1) 3 a2),sE 17 (iC a3),sE 18 (iC a4)])
def DL m0 m1 a0 a1 a2 a3 a4 a5:=ST.hd 53 1 Cl n [] [m0,m1] (bZ (.l 1) 1 nT a0++[sE 1 (.ptr (.l 1) 1 0),sE 16 (lC (.im a1) 3 a2),sE 17 (iC a3),sE 18 (iC a4)]++bZ (.l 4) 1 ji a5)
def abi m2 a0:=ST.hd 53 2 Cl n [] [m2] (bZ (.l 1) 1 nT a0++[sE 1 (.ptr (.l 1) 1 0)])
def GV m0 a0 a1:=ST.hd 62 0 Cl n [] [m0] ([sE 0 (sC a0),sE 3 (iC a1)])
def aaK m1 a0:=ST.hd 62 1 Cl n [] [m1] ([sE 0 (sC a0)])
def KS x7 m0 a0 a1 a2 a3 a4 a5 a6 a7:=ST.hd 36 0 Cl n [bx bp x7] [m0] ([(.s 0,⟨pE,0⟩)]++bZ (.e 0) 0 bp a0++bZ (.l 3) 1 fG a1++[sE 3 (.ptr (.l 3) 1 0),sE 4 (lC (.im a2) 1 a3),sE 8 (lC (.im a4) 3 a5),sE 9 (iC a6),sE 10 (iC a7)])
def KT x7 m0 a0 a1 a2 a3 a4 a5 a6:=ST.hd 36 0 Cl n [bx bp x7] [m0] ([(.s 0,⟨pE,0⟩)]++bZ (.e 0) 0 bp a0++bZ (.l 3) 1 fG a1++[sE 3 (.ptr (.l 3) 1 0),sE 4 (lC .own 1 a2),sE 8 (lC (.im a3) 3 a4),sE 9 (iC a5),sE 10 (iC a6)])
def DK x2 x3 x4 m0 a0 a1 a2 a3 a4 a5 a6 a7 a8:=ST.hd 67 0 Cl n [bx [.tg 6] x2,bx [.tg 1] x3,bx kF x4] [m0] ([sE 0 (iC a0),sE 1 (iC a1),sE 4 (.ptr (.e 2) 0 0)]++bZ (.e 0) 0 [.tg 6] a2++bZ (.e 1) 0 [.tg 1] a3++bZ (.e 2) 0 kF a4++[sE 9 (iC a5),sE 43 (lC .own 1 a6),sE 44 (iC a7),sE 45 (iC a8)])
def abh x2 x3 x4 m1 a0 a1 a2 a3 a4 a5 a6:=ST.hd 67 1 Cl n [bx [.tg 6] x2,bx [.tg 1] x3,bx kF x4] [m1] ([sE 0 (iC a0),sE 1 (iC a1),sE 3 (.ptr (.e 1) 0 0),sE 4 (.ptr (.e 2) 0 0)]++bZ (.e 0) 0 [.tg 6] a2++bZ (.e 1) 0 [.tg 1] a3++bZ (.e 2) 0 kF a4++bZ (.l 8) 1 Nx a5++[sE 8 (.ptr (.l 8) 1 0),sE 9 (iC a6)])
def LD x0 x1 m0 a0 a1 a2 a3 a4:=ST.hd 39 0 Cl n [bx cL x0,bx jR x1] [m0] ([(.s 0,⟨pE,0⟩),sE 1 (.ptr (.e 1) 0 0)]++bZ (.e 0) 0 kq a0++bZ (.e 1) 0 jR a1++bZ (.l 2) 1 eQ a2++[sE 2 (.ptr (.l 2) 1 0),sE 9 (iC a3),sE 10 (iC a4)])
def LG x0 x1 m0 m1 a0 a1 a2 a3 a4 a5:=ST.hd 39 1 Cl n [bx cL x0,bx jR x1] [m0,m1] ([(.s 0,⟨pE,0⟩),sE 1 (.ptr (.e 1) 0 0)]++bZ (.e 0) 0 kq a0++bZ (.e 1) 0 jR a1++bZ (.l 2) 1 eQ a2++[sE 2 (.ptr (.l 2) 1 0),sE 9 (iC a3),sE 10 (iC a4),sE 3 (iC a5),sE 13 (.fn 1000000000000 [] [.fn 42 [] [],.fn 43 [] []]),sE 14 (iC 2),sE 15 (iC 0)])
def aa9 x0 x1 m0 m1 a0 a1 a2 a3 a4 a5:=ST.hd 39 1 Cl n [bx cL x0,bx jR x1] [m0,m1] ([(.s 0,⟨pE,0⟩),sE 1 (.ptr (.e 1) 0 0)]++bZ (.e 0) 0 kq a0++bZ (.e 1) 0 jR a1++bZ (.l 2) 1 eQ a2++[sE 2 (.ptr (.l 2) 1 0),sE 9 (iC a3),sE 10 (iC a4),sE 3 (iC a5),sE 13 (.fn 1000000000000 [] [.fn 42 [] [],.fn 43 [] []]),sE 14 (iC 2),sE 15 (iC 1)])
def aa' x0 x1 m0 m1 a0 a1 a2 a3 a4 a5:=ST.hd 39 1 Cl n [bx cL x0,bx jR x1] [m0,m1] ([(.s 0,⟨pE,0⟩),sE 1 (.ptr (.e 1) 0 0)]++bZ (.e 0) 0 kq a0++bZ (.e 1) 0 jR a1++bZ (.l 2) 1 eQ a2++[sE 2 (.ptr (.l 2) 1 0),sE 9 (iC a3),sE 10 (iC a4),sE 3 (iC a5),sE 13 (.fn 1000000000000 [] [.fn 42 [] [],.fn 43 [] []]),sE 14 (iC 2),sE 15 (iC 2)])
variable {Cl n} {m m0 m1 m2 m3 m4 m5:Nat}
def amn {a0 a1 a2 a3 a4 a5 a6 a7 a8}:KU Cl n (m0+1) a0 a1 a2 a3 a4 a5 a6 a7 a8=Xo Cl a3 a4 a5 a6 λv1=>ur Cl a0 a1 a2 λv2=>Ja Cl a7.1 a7.2.1.1 a7.2.1.2 a7.2.2.1.1 a7.2.2.1.2 λv3=>c21 Cl a8.1 a8.2.1.1 a8.2.1.2 λv4=>gd (rL (List.length v1.1.2.2.1)) (O9 Cl v1.1.1.1 v1.1.1.2 v1.1.2.1.1 v1.1.2.1.2 false (aK (whole v1.1.2.2.1)) λv5=>c24 Cl v2.1 λv6=>bif v6.1 then c24 Cl v3.1 λv7=>bif v7.1 then c24 Cl v4.1 λv8=>bif v8.1 then c24 Cl v5.1 λv9=>bif v9.1 then BY Cl a0 a1 a2 λv10=>bif (v2.1==[]) == !v10.1 then gd (rL (List.length v1.1.2.2.1)) (c12 Cl v1.1.1.1 v1.1.1.2 v1.1.2.1.1 v1.1.2.1.2 false (aK (whole v1.1.2.2.1)) λv11=>bif (v5.1==[])==(v11.1.1 != 0) then Jd Cl a7.1 a7.2.1.1 a7.2.1.2 a7.2.2.1.1 a7.2.2.1.2 λv12=>some (.one (bC ((v3.1==[]) == !v12.1)),[]) else rF) else rF else rF else rF else rF else rF):=kR
def ahE {x0 x1 x2 x3 x4 x5 x6 x7 x8 x9 bA bG aX df kr}:Ev (c9 (T m) λv0=>bif !v0.1 then rF else bif decide (ae x1.length > 200) then rT else bif decide (ae x7.length > 40) then rT else bif decide (ae bA.length > 60) then rT else KU (T m) m m x0 x1 x2 bG aX df kr (x3,(x4,x5),(x6,x7),()) (x8,(x9,bA),())) (T (m+1) 6 [.one (lC (.im x0) 6 x1),.one (iC x2),.agg [sC x3,lC (.im x4) 1 x5,lC (.im x6) 3 x7],.agg [sC x8,lC (.im x9) 3 bA],.one (lC (.im bG) 1 aX),.one (iC df),.one (iC kr)] []):=aR
def ahF:Ev (ur (T m) false [[.int .i64 0,.str [120],.int .i64 0,.str [],.int .i64 (-1),.int .i64 (-1)],[.int .i64 1,.str [],.int .i64 (-1),.str [],.int .i64 (-1),.int .i64 (-1)],[.int .i64 6,.str [],.int .i64 0,.str [],.int .i64 0,.int .i64 1]] 2 λv0=>bif v0.1==[40,120,32,43,32,45,49,41] then O9 (T m) true [] true [] false [[.str [109,97,105,110],.sl (.im true) 3 [],.sl (.im true) 6 [],.sl (.im false) 10 [[.int .i64 0,.str [],.str [],.str [],.str [],.int .i64 (-1),.sl (.im true) 1 [],.sl (.im true) 3 [],.sl (.im true) 3 [],.int .i64 (-1)]]]] λv1=>bif v1.1==[112,114,111,99,32,109,97,105,110,40,41,32,123,10,32,32,115,116,111,112,10,125,10] then xD (T m) 5 [112,46,97] λv2=>some (.one (bC (v2.1==[99,104,97,110,32,112,46,97])),[]) else rF else rF) (T (m+1) 9 [] []):=aR
def amr {a0 a1}:lB Cl n (m0+1) a0 a1=gd (rN a1.2.2.1) (bif rN a1.2.2.1 then some (.agg [lC (.im a1.1.1) 3 a1.1.2,lC (.im a1.2.1.1) 2 a1.2.1.2,lC .own 4 a1.2.2.1],[]) else gd (rL (List.length a1.2.2.1)) (some (.agg [lC (.im a1.1.1) 3 a1.1.2,lC (.im a1.2.1.1) 2 a1.2.1.2,lC (.im false) 4 (aK (whole a1.2.2.1))],[]))):=kR
def ahN {x0 x1 x2 x3}:Ev (Xk (T m) x0 x1 λv0=>gd (!decide (bY (ae (List.length v0.1.2.2.1))=0)) (iV [.own 10] 3 1 v0.1.2.2.1 (ak ((bY x2).tmod (bY (ae (List.length v0.1.2.2.1))))) λv3=>gd (!decide (bY (ae (List.length v3.1))=0)) (ay (bL (ak ((bY x2).tmod (bY (ae (List.length v0.1.2.2.1)))))) λo4=>gd (decide (o4 < List.length v0.1.2.2.1)) (ay (v0.1.2.2.1[0+o4]?) λo5=>gd (decide (4<=o5.length)) (bR [.own 10] (List.take 1 (List.drop 3 o5)) λv6=>ay (bL (ak ((bY ((bY x2).tdiv 32)).tmod (bY (ae (List.length v3.1)))))) λo7=>gd (decide (o7 < List.length v6.1)) (bif (bY x3).tmod 12==0 then rP [.str] v0.1.2.2.1 o4 o7 1 λbr=>lB (T m) m m ((true,[]),(true,[]),(true,[]),()) (v0.1.1,v0.1.2.1,rW v0.1.2.2.1 (0+o4) 3 [(0+o7,1)] (D.str [99,57]),()) else bif (bY x3).tmod 12==1 then Pj (T m) λcE=>iR [.str] 0 1 cE.1.2 (ak ((bY ((bY x3).tdiv 12)).tmod 5)) λef=>rP [.str] v0.1.2.2.1 o4 o7 2 λaZ=>lB (T m) m m ((true,[]),(true,[]),(true,[]),()) (v0.1.1,v0.1.2.1,rW v0.1.2.2.1 (0+o4) 3 [(0+o7,2)] (D.str ef.1),()) else bif (bY x3).tmod 12==2 then c49 (T m) λv24=>iR [.str] 0 1 v24.1.2 (ak ((bY ((bY x3).tdiv 12)).tmod 4)) λiN=>rP [.str] v0.1.2.2.1 o4 o7 3 λeZ=>lB (T m) m m ((true,[]),(true,[]),(true,[]),()) (v0.1.1,v0.1.2.1,rW v0.1.2.2.1 (0+o4) 3 [(0+o7,3)] (D.str iN.1),()) else bif (bY x3).tmod 12==3 then rP bO v0.1.2.2.1 o4 o7 9 λjB=>lB (T m) m m ((true,[]),(true,[]),(true,[]),()) (v0.1.1,v0.1.2.1,rW v0.1.2.2.1 (0+o4) 3 [(0+o7,9)] (D.int .i64 (ak ((bY ((bY x2).tdiv 32)).tmod (bY (ae (List.length v3.1)))))),()) else bif (bY x3).tmod 12==4 then rP bO v0.1.2.2.1 o4 o7 0 λqN=>lB (T m) m m ((true,[]),(true,[]),(true,[]),()) (v0.1.1,v0.1.2.1,rW v0.1.2.2.1 (0+o4) 3 [(0+o7,0)] (D.int .i64 (ak ((bY ((bY x3).tdiv 12)).tmod 12))),()) else bif (bY x3).tmod 12==5 then rP bO v0.1.2.2.1 o4 o7 5 λv51=>lB (T m) m m ((true,[]),(true,[]),(true,[]),()) (v0.1.1,v0.1.2.1,rW v0.1.2.2.1 (0+o4) 3 [(0+o7,5)] (D.int .i64 (ak (ak ((bY ((bY x3).tdiv 12)).tmod 40) - 2))),()) else bif (bY x3).tmod 12==6 then rP [.str] v0.1.2.2.1 o4 o7 4 λv57=>lB (T m) m m ((true,[]),(true,[]),(true,[]),()) (v0.1.1,v0.1.2.1,rW v0.1.2.2.1 (0+o4) 3 [(0+o7,4)] (D.str [109,97,105,110]),()) else bif (bY x3).tmod 12==7 then ay (v0.1.2.2.1[0+o4]?) λo58=>ay (o58[3]?) λo59=>ga o59 λz60 r61=>gd (z60==10) (ay (r61[0+o7]?) λo62=>gd (decide (9<=o62.length)) (bR [.sl 3] (List.take 1 (List.drop 8 o62)) λIr=>zZ Ir.1.1 λt64=>bif decide (ae Ir.1.2.length > 0) then ay (v0.1.2.2.1[0+o4]?) λo65=>ay (o65[3]?) λTw=>ga Tw λz67 r68=>gd (z67==10) (ay (r68[0+o7]?) λDY=>gd (decide (9<=DY.length)) (bR [.own 3] (List.take 1 (List.drop 8 DY)) λv70=>gd (decide (Int.toNat 1<=List.length v70.1)&&decide (List.length v70.1<=List.length v70.1)&&true&&(decide (0 < List.length v70.1)||List.length v70.1==0)) (ay (v0.1.2.2.1[0+o4]?) λTx=>ay (Tx[3]?) λTy=>ga Ty λz73 r74=>ay (r74[0+o7]?) λMG=>ay (MG[8]?) λo76=>ga o76 λz77 M7=>gd (z77==3) (gd (decide (0+Int.toNat 1+(List.length v70.1 - Int.toNat 1)<=M7.length)) (rP [.any] (rW v0.1.2.2.1 (0+o4) 3 [(0+o7,8)] (D.sl (.im false) 3 (aK M7))) o4 o7 8 λv84=>lB (T m) m m ((true,[]),(true,[]),(true,[]),()) (v0.1.1,v0.1.2.1,rW (rW v0.1.2.2.1 (0+o4) 3 [(0+o7,8)] (D.sl (.im false) 3 (aK M7))) (0+o4) 3 [(0+o7,8)] (D.sl (.im false) 3 (aK (List.take (List.length v70.1 - Int.toNat 1) (List.drop (0+Int.toNat 1) M7)))),())))))) else lB (T m) m m ((true,[]),(true,[]),(true,[]),()) v0.1)) else bif (bY x3).tmod 12==8 then ay (v0.1.2.2.1[0+o4]?) λMz=>ay (Mz[3]?) λDV=>ga DV λz107 aqG=>gd (z107==10) (ay (aqG[0+o7]?) λab6=>gd (decide (8<=ab6.length)) (bR [.sl 3] (List.take 1 (List.drop 7 ab6)) λae9=>zZ ae9.1.1 λt111=>bif decide (ae ae9.1.2.length > 0) then ay (v0.1.2.2.1[0+o4]?) λapO=>ay (apO[3]?) λapP=>ga apP λatt aqH=>gd (att==10) (ay (aqH[0+o7]?) λab8=>gd (decide (8<=ab8.length)) (bR [.own 3] (List.take 1 (List.drop 7 ab8)) λv117=>gd (decide (Int.toNat 0 < List.length v117.1)) (ay (v0.1.2.2.1[0+o4]?) λapQ=>ay (apQ[3]?) λapR=>ga apR λaui aqI=>ay (aqI[0+o7]?) λapS=>ay (apS[7]?) λapT=>ga apT λz124 aqJ=>gd (z124==3) (ay (aqJ[0+Int.toNat 0]?) λab9=>gd (decide (1<=ab9.length)&&true) (bR [.str] (List.take 1 (List.drop 0 ab9)) λv127=>lB (T m) m m ((true,[]),(true,[]),(true,[]),()) (v0.1.1,v0.1.2.1,rW v0.1.2.2.1 (0+o4) 3 [(0+o7,7),(0+Int.toNat 0,0)] (D.str [97]),())))))) else lB (T m) m m ((true,[]),(true,[]),(true,[]),()) v0.1)) else bif (bY x3).tmod 12==9 then rP [.any] v0.1.2.2.1 o4 o7 6 λauc=>lB (T m) m m ((true,[]),(true,[]),(true,[]),()) (v0.1.1,v0.1.2.1,rW v0.1.2.2.1 (0+o4) 3 [(0+o7,6)] (D.sl (.im true) 1 []),()) else bif (bY x3).tmod 12==10 then rP bO v0.1.2.2.1 o4 o7 0 λaud=>rP [.str] (rW v0.1.2.2.1 (0+o4) 3 [(0+o7,0)] (D.int .i64 0)) o4 o7 1 λaue=>rP bO (rW (rW v0.1.2.2.1 (0+o4) 3 [(0+o7,0)] (D.int .i64 0)) (0+o4) 3 [(0+o7,1)] (D.str [])) o4 o7 5 λv167=>rP bO (rW (rW (rW v0.1.2.2.1 (0+o4) 3 [(0+o7,0)] (D.int .i64 0)) (0+o4) 3 [(0+o7,1)] (D.str [])) (0+o4) 3 [(0+o7,5)] (D.int .i64 (-1:Int))) o4 o7 9 λv173=>lB (T m) m m ((true,[]),(true,[]),(true,[]),()) (v0.1.1,v0.1.2.1,rW (rW (rW (rW v0.1.2.2.1 (0+o4) 3 [(0+o7,0)] (D.int .i64 0)) (0+o4) 3 [(0+o7,1)] (D.str [])) (0+o4) 3 [(0+o7,5)] (D.int .i64 (-1:Int))) (0+o4) 3 [(0+o7,9)] (D.int .i64 (-1:Int)),()) else ay (bL (ak ((bY x2).tmod (bY (ae (List.length v0.1.2.2.1)))))) λTp=>gd (decide (Tp < List.length v0.1.2.2.1)) (ay (v0.1.2.2.1[0+Tp]?) λab'=>gd (decide (2<=ab'.length)&&true) (bR [.any] (List.take 1 (List.drop 1 ab')) λauf=>lB (T m) m m ((true,[]),(true,[]),(true,[]),()) (v0.1.1,v0.1.2.1,bS v0.1.2.2.1 (0+Tp) 1 (D.sl (.im true) 3 []),()))))))))) (T (m+1) 14 [.one (lC (.im x0) 1 x1),.one (iC x2),.one (iC x3)] []):=aR
def P1 {x0 x1 x2}:Ev (BY (T m) x0 x1 x2 λv0=>bif !v0.1 then rS [] else ky (T m) x0 x1 x2 ((),(.im true,[]),()) λv1=>c37 (T m) v1.2.1 λv2=>rS v2.1) (T (m+1) 15 [.one (lC (.im x0) 6 x1),.one (iC x2)] []):=aR
def amb {a0 a1 a2 a3 a4}:qy Cl n (m0+1) a0 a1 a2 a3 a4=bif decide (a4 < a3) then iR kE 0 3 a2 a4 λv5=>B3 Cl a4 λv6=>aO (2+List.length v6.1) (aO (([32,32]++v6.1).length+2) (dw Cl ([32,32]++v6.1++[58,32]) a0 λv7=>bif v7.1.2.1 then bif ae v5.2.2.1.2.length==0 then dw Cl [101,110,100,10] v7.2.1 λv8=>bif v8.1.2.1 then qy Cl n m0 v8.2.1 a1 a2 a3 (ak (a4+1)) else qy Cl n m0 v8.2.1 a1 a2 a3 (ak (a4+1)) else aO (List.length v5.1+4) (aO ((v5.1++[32,45,62,32]).length+List.length v5.2.1) (xE Cl v5.2.2.1.1 v5.2.2.1.2 λv9=>aO ((v5.1++[32,45,62,32]++v5.2.1).length+List.length v9.1) (aO ((v5.1++[32,45,62,32]++v5.2.1++v9.1).length+1) (dw Cl (v5.1++[32,45,62,32]++v5.2.1++v9.1++[10]) v7.2.1 λv10=>bif v10.1.2.1 then qy Cl n m0 v10.2.1 a1 a2 a3 (ak (a4+1)) else qy Cl n m0 v10.2.1 a1 a2 a3 (ak (a4+1)))))) else bif ae v5.2.2.1.2.length==0 then dw Cl [101,110,100,10] v7.2.1 λv11=>bif v11.1.2.1 then qy Cl n m0 v11.2.1 a1 a2 a3 (ak (a4+1)) else qy Cl n m0 v11.2.1 a1 a2 a3 (ak (a4+1)) else aO (List.length v5.1+4) (aO ((v5.1++[32,45,62,32]).length+List.length v5.2.1) (xE Cl v5.2.2.1.1 v5.2.2.1.2 λv12=>aO ((v5.1++[32,45,62,32]++v5.2.1).length+List.length v12.1) (aO ((v5.1++[32,45,62,32]++v5.2.1++v12.1).length+1) (dw Cl (v5.1++[32,45,62,32]++v5.2.1++v12.1++[10]) v7.2.1 λbr=>bif br.1.2.1 then qy Cl n m0 br.2.1 a1 a2 a3 (ak (a4+1)) else qy Cl n m0 br.2.1 a1 a2 a3 (ak (a4+1)))))))) else dw Cl [125,10] a0 λcE=>bif cE.1.2.1 then c37 Cl cE.2.1 λdv=>rS dv.1 else c37 Cl cE.2.1 λdG=>rS dG.1:=kR
def ahu {x0 x1 x2 x3 x4}:Ev (Pk (T m) x0 x1 x2 x3 x4 λv0=>bif !v0.1 then rS [] else aO (9+x0.length) (aO (([112,114,111,116,111,99,111,108,32]++x0).length+7) (od (T m) x1 x2 [44,32] λv1=>aO (([112,114,111,116,111,99,111,108,32]++x0++[32,114,111,108,101,115,32]).length+List.length v1.1) (aO (([112,114,111,116,111,99,111,108,32]++x0++[32,114,111,108,101,115,32]++v1.1).length+3) (dw (T m) ([112,114,111,116,111,99,111,108,32]++x0++[32,114,111,108,101,115,32]++v1.1++[32,123,10]) ((),(.im true,[]),()) λv2=>bif v2.1.2.1 then qy (T m) m m v2.2.1 x3 x4 (ae x4.length) 0 else qy (T m) m m v2.2.1 x3 x4 (ae x4.length) 0))))) (T (m+1) 19 [.agg [sC x0,lC (.im x1) 1 x2,lC (.im x3) 3 x4]] []):=aR
def al' {a0 a1 a2 a3 a4}:kX Cl n (m0+1) a0 a1 a2 a3 a4=bif decide (a4 < a3) then iR ji 0 3 a2 a4 λv5=>B3 Cl a4 λv6=>aO (2+List.length v6.1) (aO (([32,32]++v6.1).length+2) (dw Cl ([32,32]++v6.1++[58,32]) a0 λv7=>bif v7.1.2.1 then bif v5.1==0 then dw Cl [101,110,100,10] v7.2.1 λv8=>bif v8.1.2.1 then kX Cl n m0 v8.2.1 a1 a2 a3 (ak (a4+1)) else kX Cl n m0 v8.2.1 a1 a2 a3 (ak (a4+1)) else bif v5.1==1 then aO (3+List.length v5.2.1) (xE Cl v5.2.2.1.1 v5.2.2.1.2 λv9=>aO (([116,111,32]++v5.2.1).length+List.length v9.1) (aO (([116,111,32]++v5.2.1++v9.1).length+1) (dw Cl ([116,111,32]++v5.2.1++v9.1++[10]) v7.2.1 λv10=>bif v10.1.2.1 then kX Cl n m0 v10.2.1 a1 a2 a3 (ak (a4+1)) else kX Cl n m0 v10.2.1 a1 a2 a3 (ak (a4+1))))) else bif v5.1==2 then aO (5+List.length v5.2.1) (xE Cl v5.2.2.1.1 v5.2.2.1.2 λv11=>aO (([102,114,111,109,32]++v5.2.1).length+List.length v11.1) (aO (([102,114,111,109,32]++v5.2.1++v11.1).length+1) (dw Cl ([102,114,111,109,32]++v5.2.1++v11.1++[10]) v7.2.1 λv12=>bif v12.1.2.1 then kX Cl n m0 v12.2.1 a1 a2 a3 (ak (a4+1)) else kX Cl n m0 v12.2.1 a1 a2 a3 (ak (a4+1))))) else kX Cl n m0 v7.2.1 a1 a2 a3 (ak (a4+1)) else bif v5.1==0 then dw Cl [101,110,100,10] v7.2.1 λbr=>bif br.1.2.1 then kX Cl n m0 br.2.1 a1 a2 a3 (ak (a4+1)) else kX Cl n m0 br.2.1 a1 a2 a3 (ak (a4+1)) else bif v5.1==1 then aO (3+List.length v5.2.1) (xE Cl v5.2.2.1.1 v5.2.2.1.2 λcE=>aO (([116,111,32]++v5.2.1).length+List.length cE.1) (aO (([116,111,32]++v5.2.1++cE.1).length+1) (dw Cl ([116,111,32]++v5.2.1++cE.1++[10]) v7.2.1 λdv=>bif dv.1.2.1 then kX Cl n m0 dv.2.1 a1 a2 a3 (ak (a4+1)) else kX Cl n m0 dv.2.1 a1 a2 a3 (ak (a4+1))))) else bif v5.1==2 then aO (5+List.length v5.2.1) (xE Cl v5.2.2.1.1 v5.2.2.1.2 λdG=>aO (([102,114,111,109,32]++v5.2.1).length+List.length dG.1) (aO (([102,114,111,109,32]++v5.2.1++dG.1).length+1) (dw Cl ([102,114,111,109,32]++v5.2.1++dG.1++[10]) v7.2.1 λef=>bif ef.1.2.1 then kX Cl n m0 ef.2.1 a1 a2 a3 (ak (a4+1)) else kX Cl n m0 ef.2.1 a1 a2 a3 (ak (a4+1))))) else kX Cl n m0 v7.2.1 a1 a2 a3 (ak (a4+1)))) else dw Cl [125,10] a0 λeu=>bif eu.1.2.1 then c37 Cl eu.2.1 λeE=>rS eE.1 else c37 Cl eu.2.1 λv20=>rS v20.1:=kR
def ama {a0}:KL Cl n (m1+1) a0=aO (6+List.length a0.1) (aO (([108,111,99,97,108,32]++a0.1).length+3) (dw Cl ([108,111,99,97,108,32]++a0.1++[32,123,10]) ((),(.im true,[]),()) λv2=>bif v2.1.2.1 then kX Cl n n v2.2.1 a0.2.1.1 a0.2.1.2 (ae a0.2.1.2.length) 0 else kX Cl n n v2.2.1 a0.2.1.1 a0.2.1.2 (ae a0.2.1.2.length) 0)):=kR
def aht {x0 x1 x2}:Ev (c53 (T m) x0 x1 x2 λv0=>bif !v0.1 then rS [] else fc (T m) x0 λv1=>bif !v1.1 then rS [] else KL (T m) m m (x0,(x1,x2),())) (T (m+1) 21 [.agg [sC x0,lC (.im x1) 3 x2]] []):=aR
def Sp {a0 a1 a2 a3 a4}:KM Cl n (m0+1) a0 a1 a2 a3 a4=bif decide (a4 < a3) then iR fG 0 4 a2 a4 λbr=>XB Cl br.1 br.2.1.1 br.2.1.2 br.2.2.1.1 br.2.2.1.2 br.2.2.2.1.1 br.2.2.2.1.2 a0 λcE=>KM Cl n m0 cE.2.1 a1 a2 a3 (ak (a4+1)) else c37 Cl a0 λdv=>rS dv.1:=kR
def aaL {a0 a1 a2 a3 a4 a5}:Dm Cl n (m1+1) a0 a1 a2 a3 a4 a5=bif decide (a5 < a4) then iR nT 0 2 a3 a5 λv8=>c21 Cl v8.1 v8.2.1.1 v8.2.1.2 λv9=>dw Cl v9.1 a1 λv10=>bif v10.1.2.1 then Dm Cl n m1 a0 v10.2.1 a2 a3 a4 (ak (a5+1)) else Dm Cl n m1 a0 v10.2.1 a2 a3 a4 (ak (a5+1)) else KM Cl n n a1 a0.2.2.1.1 a0.2.2.1.2 (ae a0.2.2.1.2.length) 0:=kR
def aaM {a0 a1 a2 a3 a4 a5}:GX Cl n (m2+1) a0 a1 a2 a3 a4 a5=bif decide (a5 < a4) then iR dS 0 3 a3 a5 λv3=>Ja Cl v3.1 v3.2.1.1 v3.2.1.2 v3.2.2.1.1 v3.2.2.1.2 λv4=>dw Cl v4.1 a1 λv5=>bif v5.1.2.1 then GX Cl n m2 a0 v5.2.1 a2 a3 a4 (ak (a5+1)) else GX Cl n m2 a0 v5.2.1 a2 a3 a4 (ak (a5+1)) else Dm Cl n n a0 a1 a0.2.1.1 a0.2.1.2 (ae a0.2.1.2.length) 0:=kR
def Yo {x0 x1 x2 x3 x4 x5}:Ev (c12 (T m) x0 x1 x2 x3 x4 x5 λv0=>bif v0.1.1 != 0 then rS [] else GX (T m) m m ((x0,x1),(x2,x3),(x4,x5),()) ((),(.im true,[]),()) x0 x1 (ae x1.length) 0) (T (m+1) 11 [.agg [lC (.im x0) 3 x1,lC (.im x2) 2 x3,lC (.im x4) 4 x5]] []):=aR
def amo {a0 a1}:Dr Cl n (m0+1) a0 a1=bif decide (a1 < ae a0.length) then ay (bL a1) λo0=>ay (a0[o0]?) λo1=>bif ae o1.toNat != 10 then ay (bL a1) λo2=>ay (a0[o2]?) λo3=>bif decide (ae o3.toNat < 32) then rF else ay (bL a1) λo4=>ay (a0[o4]?) λo5=>bif decide (ae o5.toNat > 126) then rF else Dr Cl n m0 a0 (ak (a1+1)) else Dr Cl n m0 a0 (ak (a1+1)) else rT:=kR
def ahG {x0}:Ev (Dr (T m) m m x0 0) (T (m+1) 24 [.one (sC x0)] []):=aR
def ao3 {a0 a1}:abf Cl n (m0+1) a0 a1=zZ a1.1.1 λt0=>gd (decide (a1.1.2.length<=a1.1.2.length)&&decide (a1.1.2.length * 2<=140737488355328)&&decide (a1.1.2.length<=9223372036854775807)&&true&&(!a1.1.2.length==0||a1.1.2.length==0)) (aA H0 (Cl 67 [.one (iC a0),.one (iC 1),pE,.one (.ptr (.e 1) 0 0),.one (.ptr (.e 2) 0 0)] [bx [.tg 6] ((t0,a1.1.2),()),bx [.tg 1] ((.own,List.replicate a1.1.2.length [D.bool false]),()),bx kF ((),())]) λv1=>some (.one (bC v1.1),[])):=kR
def ai' {x0 x1 x2}:Ev (bif decide (ae x1.length > 160) then rF else bif decide (x2 < 0) then rF else bif decide (x2>=ae x1.length) then rF else abf (T m) m m x2 ((.im x0,x1),())) (T (m+1) 25 [.one (lC (.im x0) 6 x1),.one (iC x2)] []):=aR
def an0 {a0 a1 a2 a3}:LC Cl n (m0+1) a0 a1 a2 a3=c40 Cl a0 λv2=>bif v2.1.1 != 0 then some (.agg [iC v2.1.1,iC v2.1.2.1,iC v2.1.2.2.1],[]) else SM Cl n m0 v2.2.1 a1 ((),()) ((),()):=kR
def an1 {a0 a1 a2 a3}:SM Cl n (m0+1) a0 a1 a2 a3=c39 Cl a0 ((),()) λv3=>bif v3.1.1 != 0 then some (.agg [iC v3.1.1,iC v3.1.2.1,iC v3.1.2.2.1],[]) else aa7 Cl n m0 v3.2.1 a1 ((),()) ((),()):=kR
def an2 {a0 a1 a2 a3}:aa7 Cl n (m0+1) a0 a1 a2 a3=c44 Cl a0 λv4=>bif v4.1.1 != 0 then some (.agg [iC v4.1.1,iC v4.1.2.1,iC v4.1.2.2.1],[]) else SN Cl n m0 v4.2.1 a1 ((),()) ((),()):=kR
def an3 {a0 a1 a2 a3}:SN Cl n (m0+1) a0 a1 a2 a3=agI Cl a0 ((),()) λv5=>bif v5.1.1 != 0 then some (.agg [iC v5.1.1,iC v5.1.2.1,iC v5.1.2.2.1],[]) else aa8 Cl n m0 v5.2.1 a1 ((),()) ((),()):=kR
def an4 {a0 a1 a2 a3}:aa8 Cl n (m0+1) a0 a1 a2 a3=some (.agg [iC 0,iC 0,iC 0],[]):=kR
def aiH {x0 x1 x2 x3 x4 x5}:Ev (c38 (T m) ((x0,x1),(x2,x3),(x4,x5),()) λv0=>agH (T m) v0.2.1 λv1=>LC (T m) m m v1.2.1 (0,0,0,()) ((),()) ((),())) (T (m+1) 12 [.agg [lC (.im x0) 3 x1,lC (.im x2) 2 x3,lC (.im x4) 4 x5]] []):=aR
def anh {a0 a1}:Li Cl n (m0+1) a0 a1=bif decide (a1 < ae a0.2.2.1.2.length) then iR kE 0 3 a0.2.2.1.2 a1 λv8=>bif v8.1==[] then bif v8.2.1==[] then bif ae v8.2.2.1.2.length==0 then Dw Cl n m0 n a0 a1 v8 else AJ Cl n m0 n a0 a1 v8 else AJ Cl n m0 n a0 a1 v8 else AJ Cl n m0 n a0 a1 v8 else rT:=kR
def ani {a0 a1 a2}:AJ Cl n m0 (m1+1) a0 a1 a2=bif a2.1==a2.2.1 then rF else Je Cl a0.2.1.1 a0.2.1.2 a2.1 λv9=>bif !v9.1 then rF else Je Cl a0.2.1.1 a0.2.1.2 a2.2.1 λv10=>bif !v10.1 then rF else c72 Cl a2.2.2.1.1 a2.2.2.1.2 (ae a0.2.2.1.2.length) λv11=>bif !v11.1 then rF else Dw Cl n m0 n a0 a1 a2:=kR
def anj {a0 a1 a2}:Dw Cl n m0 (m2+1) a0 a1 a2=Li Cl n m0 a0 (ak (a1+1)):=kR
def ank {a0 a1}:Lj Cl n (m3+1) a0 a1=bif decide (a1 < ae a0.2.1.2.length) then iR [.str] 0 1 a0.2.1.2 a1 λv4=>B4 Cl v4.1 λv5=>bif !v5.1 then rF else Lj Cl n m3 a0 (ak (a1+1)) else Li Cl n n a0 0:=kR
def anl {a0}:aa4 Cl n (m4+1) a0=Lj Cl n n a0 0:=kR
def ait {x0 x1 x2 x3 x4}:Ev (B4 (T m) x0 λv0=>bif !v0.1 then rF else bif decide (ae x2.length < 2) then rF else bif decide (ae x2.length > 5) then rF else c70 (T m) x1 x2 λv1=>bif !v1.1 then rF else bif decide (ae x4.length < 1) then rF else bif decide (ae x4.length > 24) then rF else aa4 (T m) m m (x0,(x1,x2),(x3,x4),())) (T (m+1) 26 [.agg [sC x0,lC (.im x1) 1 x2,lC (.im x3) 3 x4]] []):=aR
def ahs {x0 x1}:Ev (c53 (T m) [] false [[.int .i64 2,.str [120],.sl (.im false) 4 [[.str [120],.int .i64 x0,.str x1,.int .i64 0]]]] λv0=>bif !v0.1 then rS [] else bif x0==0 then rS [117,110,105,116] else bif x0==1 then rS [105,110,116] else bif x0==2 then rS [98,111,111,108] else bif x0==3 then rS [116,101,120,116] else bif x0==4 then rS [108,105,115,116] else aO (5+x1.length) (rS ([99,104,97,110,32]++x1))) (T (m+1) 17 [.agg [iC x0,sC x1]] []):=aR
def aaP {a0 a1 a2 a3}:GY Cl n (m0+1) a0 a1 a2 a3=bif decide (a3 < ae a2.1.2.length) then iR dS 0 3 a2.1.2 a3 λv4=>BZ Cl v4.1 v4.2.1.1 v4.2.1.2 v4.2.2.1.1 v4.2.2.1.2 λv5=>GZ Cl n m0 n a0 a1 a2 a3 v5.1.1.1 v5.1.1.2 0 else Ph Cl a2.1.1 a2.1.2 a1 λv6=>zZ v6.1.2.2.1.1 λt7=>gd (a2.2.2.1.1&&true&&true) (some (.agg [lC (.im a2.1.1) 3 a2.1.2,lC (.im a2.2.1.1) 2 a2.2.1.2,lC .own 4 [[.str v6.1.1,.sl (.im v6.1.2.1.1) 3 v6.1.2.1.2,.sl t7 6 v6.1.2.2.1.2,.sl .own 10 v6.1.2.2.2.1]]],[])):=kR
def aaQ {a0 a1 a2 a3}:Ds Cl n (m0+1) a0 a1 a2 a3=bif decide (a3 < ae a2.1.2.length) then iR dS 0 3 a2.1.2 a3 λft=>BZ Cl ft.1 ft.2.1.1 ft.2.1.2 ft.2.2.1.1 ft.2.2.1.2 λiN=>G0 Cl n m0 n a0 a1 a2 a3 iN.1.1.1 iN.1.1.2 0 else Ph Cl a2.1.1 a2.1.2 a1 λv28=>zZ v28.1.2.2.1.1 λt29=>gd (rO (List.length a2.2.2.1) 88) (gd (rN (a2.2.2.1++[[D.str [],D.sl (.im true) 3 [],D.sl (.im true) 6 [],D.sl (.im true) 10 []]].set 0 [D.str v28.1.1,D.sl (.im v28.1.2.1.1) 3 v28.1.2.1.2,D.sl t29 6 v28.1.2.2.1.2,D.sl .own 10 v28.1.2.2.2.1])) (bif rN (a2.2.2.1++[[D.str [],D.sl (.im true) 3 [],D.sl (.im true) 6 [],D.sl (.im true) 10 []]].set 0 [D.str v28.1.1,D.sl (.im v28.1.2.1.1) 3 v28.1.2.1.2,D.sl t29 6 v28.1.2.2.1.2,D.sl .own 10 v28.1.2.2.2.1]) then some (.agg [lC (.im a2.1.1) 3 a2.1.2,lC (.im a2.2.1.1) 2 a2.2.1.2,lC .own 4 (a2.2.2.1++[[D.str [],D.sl (.im true) 3 [],D.sl (.im true) 6 [],D.sl (.im true) 10 []]].set 0 [D.str v28.1.1,D.sl (.im v28.1.2.1.1) 3 v28.1.2.1.2,D.sl t29 6 v28.1.2.2.1.2,D.sl .own 10 v28.1.2.2.2.1])],[]) else gd (rL ((a2.2.2.1++[[D.str [],D.sl (.im true) 3 [],D.sl (.im true) 6 [],D.sl (.im true) 10 []]].set 0 [D.str v28.1.1,D.sl (.im v28.1.2.1.1) 3 v28.1.2.1.2,D.sl t29 6 v28.1.2.2.1.2,D.sl .own 10 v28.1.2.2.2.1]).length)) (some (.agg [lC (.im a2.1.1) 3 a2.1.2,lC (.im a2.2.1.1) 2 a2.2.1.2,lC (.im false) 4 (aK (whole (a2.2.2.1++[[D.str [],D.sl (.im true) 3 [],D.sl (.im true) 6 [],D.sl (.im true) 10 []]].set 0 [D.str v28.1.1,D.sl (.im v28.1.2.1.1) 3 v28.1.2.1.2,D.sl t29 6 v28.1.2.2.1.2,D.sl .own 10 v28.1.2.2.2.1])))],[])))):=kR
def amp {a0 a1 a2 a3 a4 a5 a6}:GZ Cl n m0 (m1+1) a0 a1 a2 a3 a4 a5 a6=bif decide (a6 < ae a5.length) then iR dS 0 3 a2.1.2 a3 λv10=>iR [.str] 0 1 a5 a6 λbr=>Pg Cl a2.1.1 a2.1.2 v10.1 v10.2.1.1 v10.2.1.2 v10.2.2.1.1 v10.2.2.1.2 a4 a5 a6 br.1 a1 λcE=>zZ cE.1.2.2.1.1 λt15=>gd (a2.2.2.1.1&&true&&true) (G0 Cl n m0 m1 a0 cE.2.1 (a2.1,a2.2.1,[[.str cE.1.1,.sl .own 3 cE.1.2.1,.sl t15 6 cE.1.2.2.1.2,.sl .own 10 cE.1.2.2.2.1]],()) a3 a4 a5 (ak (a6+1))) else GY Cl n m0 a0 a1 a2 (ak (a3+1)):=kR
def amq {a0 a1 a2 a3 a4 a5 a6}:G0 Cl n m0 (m1+1) a0 a1 a2 a3 a4 a5 a6=bif decide (a6 < ae a5.length) then iR dS 0 3 a2.1.2 a3 λeu=>iR [.str] 0 1 a5 a6 λv21=>Pg Cl a2.1.1 a2.1.2 eu.1 eu.2.1.1 eu.2.1.2 eu.2.2.1.1 eu.2.2.1.2 a4 a5 a6 v21.1 a1 λjU=>zZ jU.1.2.2.1.1 λt23=>gd (rO (List.length a2.2.2.1) 88) (G0 Cl n m0 m1 a0 jU.2.1 (a2.1,a2.2.1,a2.2.2.1++[[D.str [],D.sl (.im true) 3 [],D.sl (.im true) 6 [],D.sl (.im true) 10 []]].set 0 [D.str jU.1.1,D.sl .own 3 jU.1.2.1,D.sl t23 6 jU.1.2.2.1.2,D.sl .own 10 jU.1.2.2.2.1],()) a3 a4 a5 (ak (a6+1))) else Ds Cl n m0 a0 a1 a2 (ak (a3+1)):=kR
def ahK {x0 x1}:Ev (c28 (T m) x0 x1 λv0=>c31 (T m) v0.2.1 λv1=>GY (T m) m m ((true,[]),(true,[]),(true,[]),()) v1.2.1 (v1.1,(true,[]),(true,[]),()) 0) (T (m+1) 10 [.one (lC (.im x0) 1 x1)] []):=aR
def Yq:Ev (some (.one (lC (.im false) 1 [[.str [97]],[.str [98]],[.str [99]],[.str [100]],[.str [101]]]),[])) (T (m+1) 48 [] []):=aR
def Yp:Ev (some (.one (lC (.im false) 1 [[.str [119]],[.str [120]],[.str [121]],[.str [122]]]),[])) (T (m+1) 49 [] []):=aR
def P2 {x0 x1 x2 x3}:Ev (iR Nx 0 6 x1 x2 λv2=>bif decide (v2.2.2.2.2.1 < 0) then Xl (T m) v2.1 v2.2.1 v2.2.2.1 v2.2.2.2.1 v2.2.2.2.2.1 v2.2.2.2.2.2.1 λv3=>dw (T m) v3.1 x3 λv4=>bif v4.1.2.1 then some (.ao [],[bx bp v4.2.1]) else some (.ao [],[bx bp v4.2.1]) else bif v2.1==15 then dw (T m) [40,110,111,116,32] x3 λv5=>bif v5.1.2.1 then ky (T m) x0 x1 v2.2.2.2.2.1 v5.2.1 λv6=>dw (T m) [41] v6.2.1 λv7=>bif v7.1.2.1 then some (.ao [],[bx bp v7.2.1]) else some (.ao [],[bx bp v7.2.1]) else ky (T m) x0 x1 v2.2.2.2.2.1 v5.2.1 λv8=>dw (T m) [41] v8.2.1 λv9=>bif v9.1.2.1 then some (.ao [],[bx bp v9.2.1]) else some (.ao [],[bx bp v9.2.1]) else BV (T m) v2.1 λv10=>bif !v10.1==[] then dw (T m) [40] x3 λv11=>bif v11.1.2.1 then ky (T m) x0 x1 v2.2.2.2.2.1 v11.2.1 λv12=>BV (T m) v2.1 λbr=>aO (1+List.length br.1) (aO (([32]++br.1).length+1) (dw (T m) ([32]++br.1++[32]) v12.2.1 λcE=>bif cE.1.2.1 then ky (T m) x0 x1 v2.2.2.2.2.2.1 cE.2.1 λdv=>dw (T m) [41] dv.2.1 λdG=>bif dG.1.2.1 then some (.ao [],[bx bp dG.2.1]) else some (.ao [],[bx bp dG.2.1]) else ky (T m) x0 x1 v2.2.2.2.2.2.1 cE.2.1 λef=>dw (T m) [41] ef.2.1 λeu=>bif eu.1.2.1 then some (.ao [],[bx bp eu.2.1]) else some (.ao [],[bx bp eu.2.1]))) else ky (T m) x0 x1 v2.2.2.2.2.1 v11.2.1 λeE=>BV (T m) v2.1 λv20=>aO (1+List.length v20.1) (aO (([32]++v20.1).length+1) (dw (T m) ([32]++v20.1++[32]) eE.2.1 λv21=>bif v21.1.2.1 then ky (T m) x0 x1 v2.2.2.2.2.2.1 v21.2.1 λjU=>dw (T m) [41] jU.2.1 λaZ=>bif aZ.1.2.1 then some (.ao [],[bx bp aZ.2.1]) else some (.ao [],[bx bp aZ.2.1]) else ky (T m) x0 x1 v2.2.2.2.2.2.1 v21.2.1 λv24=>dw (T m) [41] v24.2.1 λp4=>bif p4.1.2.1 then some (.ao [],[bx bp p4.2.1]) else some (.ao [],[bx bp p4.2.1]))) else O7 (T m) v2.1 λft=>aO (List.length ft.1+1) (dw (T m) (ft.1++[40]) x3 λiN=>bif iN.1.2.1 then ky (T m) x0 x1 v2.2.2.2.2.1 iN.2.1 λv28=>bif decide (v2.2.2.2.2.2.1>=0) then dw (T m) [44,32] v28.2.1 λkH=>bif kH.1.2.1 then ky (T m) x0 x1 v2.2.2.2.2.2.1 kH.2.1 λv30=>dw (T m) [41] v30.2.1 λv31=>bif v31.1.2.1 then some (.ao [],[bx bp v31.2.1]) else some (.ao [],[bx bp v31.2.1]) else ky (T m) x0 x1 v2.2.2.2.2.2.1 kH.2.1 λjj=>dw (T m) [41] jj.2.1 λeZ=>bif eZ.1.2.1 then some (.ao [],[bx bp eZ.2.1]) else some (.ao [],[bx bp eZ.2.1]) else dw (T m) [41] v28.2.1 λfe=>bif fe.1.2.1 then some (.ao [],[bx bp fe.2.1]) else some (.ao [],[bx bp fe.2.1]) else ky (T m) x0 x1 v2.2.2.2.2.1 iN.2.1 λny=>bif decide (v2.2.2.2.2.2.1>=0) then dw (T m) [44,32] ny.2.1 λnA=>bif nA.1.2.1 then ky (T m) x0 x1 v2.2.2.2.2.2.1 nA.2.1 λv37=>dw (T m) [41] v37.2.1 λtW=>bif tW.1.2.1 then some (.ao [],[bx bp tW.2.1]) else some (.ao [],[bx bp tW.2.1]) else ky (T m) x0 x1 v2.2.2.2.2.2.1 nA.2.1 λjB=>dw (T m) [41] jB.2.1 λv40=>bif v40.1.2.1 then some (.ao [],[bx bp v40.2.1]) else some (.ao [],[bx bp v40.2.1]) else dw (T m) [41] ny.2.1 λnW=>bif nW.1.2.1 then some (.ao [],[bx bp nW.2.1]) else some (.ao [],[bx bp nW.2.1]))) (T (m+1) 50 [pE,.one (lC (.im x0) 6 x1),.one (iC x2)] [bx bp x3]):=aR
def Yt {x0}:Ev (zZ x0.2.1.1 λt0=>zM t0 (λb0=>none) (gd (!x0.2.1.2.length==0&&true) (gd (x0.2.1.2.length==x0.2.1.2.length && !x0.2.1.2.length==0&&decide (x0.2.1.2.length<=140737488355328)) (ay (kG x0.2.1.2) λo1=>some (.one (sC o1),[bx y9 ((),(),())]))))) (T (m+1) 37 [pE] [bx bp x0]):=aR
def alX {a0 a1 a2 a3 a4}:GO Cl n (m0+1) a0 a1 a2 a3 a4=bif decide (a4 < a3) then iR kE 0 3 a2 a4 λv8=>bif v8.1==[] then bif v8.2.1==[] then bif ae v8.2.2.1.2.length==0 then GO Cl n m0 a0 a1 a2 a3 (ak (a4+1)) else GQ Cl n m0 n a0 a1 a2 a3 a4 v8 else GQ Cl n m0 n a0 a1 a2 a3 a4 v8 else GQ Cl n m0 n a0 a1 a2 a3 a4 v8 else agB Cl a0.1 a0.2.1.1 a0.2.1.2 a0.2.2.1.1 a0.2.2.1.2 λv9=>c53 Cl v9.1.1 v9.1.2.1.1 v9.1.2.1.2 λv10=>some (.one (bC v10.1),[]):=kR
def alY {a0 a1 a2 a3 a4 a5}:GQ Cl n m0 (m1+1) a0 a1 a2 a3 a4 a5=zG Cl a0.2.1.1 a0.2.1.2 a5.1 λv11=>bif !v11.1 then rF else zG Cl a0.2.1.1 a0.2.1.2 a5.2.1 λv12=>bif !v12.1 then rF else bif a5.1==a5.2.1 then rF else GO Cl n m0 a0 a1 a2 a3 (ak (a4+1)):=kR
def alZ {a0 a1 a2 a3 a4}:KG Cl n (m2+1) a0 a1 a2 a3 a4=bif decide (a4 < a3) then iR [.str] 0 1 a2 a4 λv4=>fc Cl v4.1 λv5=>bif !v5.1 then rF else KG Cl n m2 a0 a1 a2 a3 (ak (a4+1)) else GO Cl n n a0 a0.2.2.1.1 a0.2.2.1.2 (ae a0.2.2.1.2.length) 0:=kR
def al0 {a0}:aaI Cl n (m3+1) a0=KG Cl n n a0 a0.2.1.1 a0.2.1.2 (ae a0.2.1.2.length) 0:=kR
def ahi {x0 x1 x2 x3 x4}:Ev (fc (T m) x0 λv0=>bif !v0.1 then rF else bif decide (ae x2.length < 2) then rF else bif decide (ae x2.length > 5) then rF else vK (T m) x1 x2 λv1=>bif !v1.1 then rF else bif decide (ae x4.length > 24) then rF else aaI (T m) m m (x0,(x1,x2),(x3,x4),())) (T (m+1) 55 [.agg [sC x0,lC (.im x1) 1 x2,lC (.im x3) 3 x4]] []):=aR
def aoZ {a0 a1 a2 a3 a4 a5}:yB Cl n (m0+1) a0 a1 a2 a3 a4 a5=bif decide (a5 < a4) then iR [.str] 0 1 a3 a5 λv11=>dw Cl a0 a1 λv12=>bif v12.1.2.1 then dw Cl v11.1 v12.2.1 λbr=>bif br.1.2.1 then yB Cl n m0 a0 br.2.1 a2 a3 a4 (ak (a5+1)) else yB Cl n m0 a0 br.2.1 a2 a3 a4 (ak (a5+1)) else dw Cl v11.1 v12.2.1 λcE=>bif cE.1.2.1 then yB Cl n m0 a0 cE.2.1 a2 a3 a4 (ak (a5+1)) else yB Cl n m0 a0 cE.2.1 a2 a3 a4 (ak (a5+1)) else c37 Cl a1 λdv=>rS dv.1:=kR
def ao0 {a0 a1 a2 a3 a4 a5 a6 a7}:Mj Cl n (m1+1) a0 a1 a2 a3 a4 a5 a6 a7=bif decide (a7 < a6) then iR [.str] 0 1 a5 a7 λv4=>bif decide (ae (List.length v4.1) > ak (9223372036854775807 - a3)) then none else Mj Cl n m1 a0 a1 a2 (ak (a3+ae (List.length v4.1))) a4 a5 a6 (ak (a7+1)) else Xm Cl a3 ((),(.im true,[]),()) λv5=>ay (a1[Int.toNat 0]?) λo6=>gd (decide (1<=o6.length)) (bR [.str] (List.take 1 o6) λv7=>dw Cl v7.1 v5.2.1 λv8=>bif v8.1.2.1 then gd (decide (Int.toNat 1<=a1.length)&&decide (a1.length<=a1.length)) (yB Cl n n a2 v8.2.1 a0 (List.take (a1.length - Int.toNat 1) (List.drop (1) a1)) (ae (List.take (a1.length - Int.toNat 1) (List.drop (1) a1)).length) 0) else gd (decide (Int.toNat 1<=a1.length)&&decide (a1.length<=a1.length)) (yB Cl n n a2 v8.2.1 a0 (List.take (a1.length - Int.toNat 1) (List.drop (1) a1)) (ae (List.take (a1.length - Int.toNat 1) (List.drop (1) a1)).length) 0)):=kR
def ao1 {a0 a1 a2 a3}:abe Cl n (m2+1) a0 a1 a2 a3=SO Cl n n a0 a1 a2 (ak (a3+ak (ae a2.length * ak (ae a1.length - 1)))):=kR
def ao2 {a0 a1 a2 a3}:SO Cl n (m3+1) a0 a1 a2 a3=Mj Cl n n a0 a1 a2 a3 a0 a1 (ae a1.length) 0:=kR
def Ys {x0 x1 x2}:Ev (bif ae x1.length==0 then rS [] else bif ae x1.length==1 then ay (x1[Int.toNat 0]?) λo0=>gd (decide (1<=o0.length)) (bR [.str] (List.take 1 o0) λv1=>rS v1.1) else bif decide (ae x2.length > 0) then gd (!decide (ak (ae x1.length - 1)=0)) (bif decide (ae x2.length>=ak (Int.tdiv 9223372036854775807 (ak (ae x1.length - 1)))) then none else abe (T m) m m x0 x1 x2 0) else SO (T m) m m x0 x1 x2 0) (T (m+1) 56 [.one (lC (.im x0) 1 x1),.one (sC x2)] []):=aR
def Yu {x0 x1}:Ev (c91 (T m) x1 λv0=>zZ v0.2.1.2.1.1 λt1=>gd (zM t1 (λb1=>fS 1 (D.c8 x0) false&&(b1&&true&&decide ((D.c8 x0).length * 1<=140737488355328))) (fS 1 (D.c8 x0) v0.2.1.2.1.2.isEmpty&&true&&true&&v0.2.1.2.1.2.length==v0.2.1.2.1.2.length&&true&&decide ((v0.2.1.2.1.2.length+(D.c8 x0).length) * 1<=140737488355328))) (zM t1 (λb1=>bif (D.c8 x0).isEmpty then some (.ao [.one (iC (ae x0.length)),.one .fQ],[bx bp ((),(.im true,D.c8 x0),())]) else some (.ao [.one (iC (ae x0.length)),.one .fQ],[bx bp ((),(.own,D.c8 x0),())])) (some (.ao [.one (iC (ae x0.length)),.one .fQ],[bx bp ((),(.own,v0.2.1.2.1.2++D.c8 x0),())])))) (T (m+1) 35 [pE,.one (sC x0)] [bx bp x1]):=aR
def ame {a0 a1 a2 a3 a4 a5}:KP Cl n (m0+1) a0 a1 a2 a3 a4 a5=bif decide (a5 < a4) then iR Bf 0 4 a3 a5 λv2=>aO (List.length v2.1+1) (xD Cl v2.2.1 v2.2.2.1 λv3=>aO ((v2.1++[40]).length+List.length v3.1) (aO ((v2.1++[40]++v3.1).length+2) (B3 Cl v2.2.2.2.1 λv4=>aO ((v2.1++[40]++v3.1++[41,32]).length+List.length v4.1) (gd (a0&&true&&true) (Dn Cl n m0 [[.str (v2.1++[40]++v3.1++[41,32]++v4.1)]] a2 a3 a4 (ak (a5+1))))))) else od Cl a0 a1 [44,32] λv5=>aO (3+List.length v5.1) (aO (([32,123,32]++v5.1).length+2) (rS ([32,123,32]++v5.1++[32,125]))):=kR
def amf {a0 a1 a2 a3 a4}:Dn Cl n (m0+1) a0 a1 a2 a3 a4=bif decide (a4 < a3) then iR Bf 0 4 a2 a4 λv8=>aO (List.length v8.1+1) (xD Cl v8.2.1 v8.2.2.1 λv9=>aO ((v8.1++[40]).length+List.length v9.1) (aO ((v8.1++[40]++v9.1).length+2) (B3 Cl v8.2.2.2.1 λv10=>aO ((v8.1++[40]++v9.1++[41,32]).length+List.length v10.1) (gd (rO a0.length 16) (Dn Cl n m0 (a0++whole ([[D.str []]].set 0 [D.str (v8.1++[40]++v9.1++[41,32]++v10.1)])) a1 a2 a3 (ak (a4+1))))))) else gd (rL a0.length) (od Cl false (aK (whole a0)) [44,32] λv11=>aO (3+List.length v11.1) (aO (([32,123,32]++v11.1).length+2) (rS ([32,123,32]++v11.1++[32,125])))):=kR
def ahw {x0 x1}:Ev (KP (T m) m m true [] x0 x1 (ae x1.length) 0) (T (m+1) 58 [.one (lC (.im x0) 4 x1)] []):=aR
def ao6 {a0 a1 a2 a3 a4}:Mk Cl n (m0+1) a0 a1 a2 a3 a4=bif decide (a4 < a3) then iR ji 0 3 a2 a4 λv2=>bif v2.1==0 then bif !v2.2.1==[] then rF else bif decide (ae v2.2.2.1.2.length > 0) then rF else DL Cl n m0 n a0 a1 a2 a3 a4 v2 else bif v2.1==1 then fc Cl v2.2.1 λv3=>bif !v3.1 then rF else O8 Cl v2.2.2.1.1 v2.2.2.1.2 (ae a0.2.1.2.length) λv4=>bif !v4.1 then rF else DL Cl n m0 n a0 a1 a2 a3 a4 v2 else bif v2.1==2 then fc Cl v2.2.1 λv5=>bif !v5.1 then rF else O8 Cl v2.2.2.1.1 v2.2.2.1.2 (ae a0.2.1.2.length) λv6=>bif !v6.1 then rF else DL Cl n m0 n a0 a1 a2 a3 a4 v2 else rF else rT:=kR
def ao7 {a0 a1 a2 a3 a4 a5}:DL Cl n m0 (m1+1) a0 a1 a2 a3 a4 a5=Mk Cl n m0 a0 a1 a2 a3 (ak (a4+1)):=kR
def ao8 {a0}:abi Cl n (m2+1) a0=Mk Cl n n a0 a0.2.1.1 a0.2.1.2 (ae a0.2.1.2.length) 0:=kR
def aje {x0 x1 x2}:Ev (bif decide (ae x2.length < 1) then rF else bif decide (ae x2.length > 40) then rF else abi (T m) m m (x0,(x1,x2),())) (T (m+1) 53 [.agg [sC x0,lC (.im x1) 3 x2]] []):=aR
def al6 {a0 a1}:GV Cl n (m0+1) a0 a1=bif decide (a1 < ae a0.length) then ay (bL a1) λo3=>ay (a0[o3]?) λo4=>aA bu (Cl 115 [.one (.d (.int .u8 (ae o4.toNat)))] []) λv5=>bif !v5.1 then ay (bL a1) λo6=>ay (a0[o6]?) λo7=>aA bu (Cl 117 [.one (.d (.int .u8 (ae o7.toNat)))] []) λv8=>bif !v8.1 then rF else GV Cl n m0 a0 (ak (a1+1)) else GV Cl n m0 a0 (ak (a1+1)) else rT:=kR
def al7 {a0}:aaK Cl n (m1+1) a0=GV Cl n n a0 1:=kR
def ahn {x0}:Ev (bif decide (ae x0.length < 1) then rF else bif decide (ae x0.length > 12) then rF else ay (x0[Int.toNat 0]?) λo0=>aA bu ((T m) 115 [.one (.d (.int .u8 (ae o0.toNat)))] []) λv1=>bif !v1.1 then rF else c116 (T m) x0 λv2=>bif v2.1 then rF else aaK (T m) m m x0) (T (m+1) 62 [.one (sC x0)] []):=aR
def aml {x7 a0 a1 a2 a3 a4 a5 a6 a7}:KS Cl n x7 (m0+1) a0 a1 a2 a3 a4 a5 a6 a7=bif decide (a7 < a6) then iR Ep 0 3 a5 a7 λv2=>aO (List.length v2.1+2) (xD Cl v2.2.1 v2.2.2.1 λv3=>aO ((v2.1++[58,32]).length+List.length v3.1) (gd (a2&&true&&true) (KT Cl n x7 m0 a0 a1 [[.str (v2.1++[58,32]++v3.1)]] a4 a5 a6 (ak (a7+1))))) else aO (5+List.length a1.1) (aO (([112,114,111,99,32]++a1.1).length+1) (od Cl a2 a3 [44,32] λv4=>aO (([112,114,111,99,32]++a1.1++[40]).length+List.length v4.1) (aO (([112,114,111,99,32]++a1.1++[40]++v4.1).length+3) (iq Cl 0 ([112,114,111,99,32]++a1.1++[40]++v4.1++[41,32,123]) a0 λv5=>c93 Cl a1.1 a1.2.1.1 a1.2.1.2 a1.2.2.1.1 a1.2.2.1.2 a1.2.2.2.1.1 a1.2.2.2.1.2 0 1 v5.2.1 λv6=>iq Cl 0 [125] v6.2.1 λv7=>some (.ao [],[bx bp v7.2.1]))))):=kR
def amm {x7 a0 a1 a2 a3 a4 a5 a6}:KT Cl n x7 (m0+1) a0 a1 a2 a3 a4 a5 a6=bif decide (a6 < a5) then iR Ep 0 3 a4 a6 λv10=>aO (List.length v10.1+2) (xD Cl v10.2.1 v10.2.2.1 λv11=>aO ((v10.1++[58,32]).length+List.length v11.1) (gd (rO a2.length 16) (KT Cl n x7 m0 a0 a1 (a2++whole ([[D.str []]].set 0 [D.str (v10.1++[58,32]++v11.1)])) a3 a4 a5 (ak (a6+1))))) else aO (5+List.length a1.1) (aO (([112,114,111,99,32]++a1.1).length+1) (gd (rL a2.length) (od Cl false (aK (whole a2)) [44,32] λv12=>aO (([112,114,111,99,32]++a1.1++[40]).length+List.length v12.1) (aO (([112,114,111,99,32]++a1.1++[40]++v12.1).length+3) (iq Cl 0 ([112,114,111,99,32]++a1.1++[40]++v12.1++[41,32,123]) a0 λbr=>c93 Cl a1.1 a1.2.1.1 a1.2.1.2 a1.2.2.1.1 a1.2.2.1.2 a1.2.2.2.1.1 a1.2.2.2.1.2 0 1 br.2.1 λcE=>iq Cl 0 [125] cE.2.1 λdv=>some (.ao [],[bx bp dv.2.1])))))):=kR
def ahC {x0 x1 x2 x3 x4 x5 x6 x7}:Ev (KS (T m) m x7 m x7 (x0,(x1,x2),(x3,x4),(x5,x6),()) true [] x1 x2 (ae x2.length) 0) (T (m+1) 36 [pE,.agg [sC x0,lC (.im x1) 3 x2,lC (.im x3) 6 x4,lC (.im x5) 10 x6]] [bx bp x7]):=aR
def abg {x2 x3 x4 a0 a1 a2 a3 a4 a5 a6 a7 a8}:DK Cl n x2 x3 x4 (m0+1) a0 a1 a2 a3 a4 a5 a6 a7 a8=bif decide (a8 < a7) then iV bO 0 1 a6 a8 λny=>bif decide (a8>=a5) then bif ny.1 != (-1:Int) then some (.one (bC false),[bx [.tg 6] a2,bx [.tg 1] a3,bx kF ((),())]) else DK Cl n x2 x3 x4 m0 a0 a1 a2 a3 ((),()) a5 a6 a7 (ak (a8+1)) else bif decide (ny.1 < 0) then some (.one (bC false),[bx [.tg 6] a2,bx [.tg 1] a3,bx kF ((),())]) else bif decide (ny.1>=a0) then some (.one (bC false),[bx [.tg 6] a2,bx [.tg 1] a3,bx kF ((),())]) else aA H0 (Cl 67 [.one (iC ny.1),.one (iC (ak (a1+1))),pE,.one (.ptr (.e 1) 0 0),.one (.ptr (.e 2) 0 0)] [bx [.tg 6] a2,bx [.tg 1] a3,bx kF ((),())]) λnA=>bif !nA.1 then some (.one (bC false),[bx [.tg 6] nA.2.1,bx [.tg 1] nA.2.2.1,bx kF ((),())]) else DK Cl n x2 x3 x4 m0 a0 a1 nA.2.1 nA.2.2.1 ((),()) a5 a6 a7 (ak (a8+1)) else some (.one (bC true),[bx [.tg 6] a2,bx [.tg 1] a3,bx kF ((),())]):=kR
def ao4 {x2 x3 x4 a0 a1 a2 a3 a4 a5 a6}:abh Cl n x2 x3 x4 (m1+1) a0 a1 a2 a3 a4 a5 a6=zZ a3.1.1 λt27=>ay (bL a0) λMB=>zO t27 (decide (MB < a3.1.2.length)) (ay (zM t27 (λOT=>a3.1.2[MB]?) (a3.1.2[0+MB]?)) λnj=>zO t27 (decide (1<=nj.length)&&true) (zM t27 (λOT=>none) (bR [.bool] (List.take 1 (List.drop 0 nj)) λjj=>DK Cl n x2 x3 x4 n a0 a1 a2 ((.own,bS a3.1.2 (0+MB) 0 (D.bool true)),()) ((),()) a6 [[.int .i64 a5.2.2.2.2.1],[.int .i64 a5.2.2.2.2.2.1]] 2 0))):=kR
def aja {x0 x1 x2 x3 x4}:Ev (zZ x2.1.1 λt0=>zI t0 Nx 0 6 x2.1.2 x0 λv3=>c68 (T m) v3.1 λv4=>zZ x3.1.1 λt5=>zI t5 [.bool] 0 1 x3.1.2 x0 λv8=>bif v8.1 then some (.one (bC false),[bx [.tg 6] ((t0,x2.1.2),()),bx [.tg 1] ((t5,x3.1.2),()),bx kF ((),())]) else bif decide (x1 > 24) then some (.one (bC false),[bx [.tg 6] ((t0,x2.1.2),()),bx [.tg 1] ((t5,x3.1.2),()),bx kF ((),())]) else bif decide (v4.1 < 0) then some (.one (bC false),[bx [.tg 6] ((t0,x2.1.2),()),bx [.tg 1] ((t5,x3.1.2),()),bx kF ((),())]) else XG (T m) v3.1 v3.2.1 v3.2.2.1 v3.2.2.2.1 v3.2.2.2.2.1 v3.2.2.2.2.2.1 λv9=>bif !v9.1 then some (.one (bC false),[bx [.tg 6] ((t0,x2.1.2),()),bx [.tg 1] ((t5,x3.1.2),()),bx kF ((),())]) else abh (T m) m x2 x3 x4 m x0 x1 ((t0,x2.1.2),()) ((t5,x3.1.2),()) ((),()) v3 v4.1) (T (m+1) 67 [.one (iC x0),.one (iC x1),pE,.one (.ptr (.e 1) 0 0),.one (.ptr (.e 2) 0 0)] [bx [.tg 6] x2,bx [.tg 1] x3,bx kF x4]):=aR
def aiI {x0}:Ev (some (.one (.fn 39 [] [.ptr (.e 0) 0 0,.ptr (.e 1) 0 0]),[bx kq ((.im x0.1.1,x0.1.2),(.im x0.2.1.1,x0.2.1.2),(.im x0.2.2.1.1,x0.2.2.1.2),()),bx jR ((),())])) (T (m+1) 38 [.one (.fn 1000000000000 [] [.fn 42 [] [],.fn 43 [] []]),pE] [bx cL x0]):=aR
def aiL {x0}:Ev (some (.one (.fn 39 [] [.ptr (.e 0) 0 0,.ptr (.e 1) 0 0]),[bx kq ((.im x0.1.1,x0.1.2),(.im x0.2.1.1,x0.2.1.2),(.im x0.2.2.1.1,x0.2.2.1.2),()),bx lg ((),())])) (T (m+1) 38 [.one (.fn 1000000000000 [] [.fn 47 [] []]),pE] [bx cL x0]):=aR
def aiM {x0}:Ev (XC (T m) x0.1.1 x0.1.2 x0.2.1.1 x0.2.1.2 x0.2.2.1.1 x0.2.2.1.2 λv0=>some (.agg [iC v0.1.1,iC v0.1.2.1,iC v0.1.2.2.1],[bx kq ((.im x0.1.1,x0.1.2),(.im x0.2.1.1,x0.2.1.2),(.im x0.2.2.1.1,x0.2.2.1.2),())])) (T (m+1) 40 [pE] [bx cL x0]):=aR
def an5 {x0 x1 a0 a1 a2 a3 a4}:LD Cl n x0 x1 (m0+1) a0 a1 a2 a3 a4=bif decide (a4 < a3) then LG Cl n x0 x1 m0 n a0 ((),()) a2 a3 a4 a4 else some (.agg [iC 0,iC 0,iC 0],[bx kq a0,bx jR ((),())]):=kR
def an6 {x0 x1 a0 a1 a2 a3 a4 a5}:LG Cl n x0 x1 m0 (m1+1) a0 a1 a2 a3 a4 a5=zZ a0.1.1 λt0=>zZ a0.2.1.1 λt1=>zZ a0.2.2.1.1 λt2=>zO t0 (rL a0.1.2.length) (zO t1 (rL a0.2.1.2.length) (zO t2 (rL a0.2.2.1.2.length) (XD Cl (zB t0) (zW t0 a0.1.2) (zB t1) (zW t1 a0.2.1.2) (zB t2) (zW t2 a0.2.2.1.2) a5 λv3=>bif v3.1.1 != 0 then some (.agg [iC v3.1.1,iC v3.1.2.1,iC v3.1.2.2.1],[bx kq ((t0,a0.1.2),(t1,a0.2.1.2),(t2,a0.2.2.1.2),()),bx jR ((),())]) else aa9 Cl n x0 x1 m0 m1 ((t0,a0.1.2),(t1,a0.2.1.2),(t2,a0.2.2.1.2),()) ((),()) a2 a3 a4 a5))):=kR
def an7 {x0 x1 a0 a1 a2 a3 a4 a5}:aa9 Cl n x0 x1 m0 (m1+1) a0 a1 a2 a3 a4 a5=zZ a0.1.1 λt15=>zZ a0.2.1.1 λt16=>zZ a0.2.2.1.1 λt17=>zO t15 (rL a0.1.2.length) (zO t16 (rL a0.2.1.2.length) (zO t17 (rL a0.2.2.1.2.length) (XE Cl (zB t15) (zW t15 a0.1.2) (zB t16) (zW t16 a0.2.1.2) (zB t17) (zW t17 a0.2.2.1.2) a5 λeu=>bif eu.1.1 != 0 then some (.agg [iC eu.1.1,iC eu.1.2.1,iC eu.1.2.2.1],[bx kq ((t15,a0.1.2),(t16,a0.2.1.2),(t17,a0.2.2.1.2),()),bx jR ((),())]) else aa' Cl n x0 x1 m0 m1 ((t15,a0.1.2),(t16,a0.2.1.2),(t17,a0.2.2.1.2),()) ((),()) a2 a3 a4 a5))):=kR
def an8 {x0 x1 a0 a1 a2 a3 a4 a5}:aa' Cl n x0 x1 m0 (m1+1) a0 a1 a2 a3 a4 a5=LD Cl n x0 x1 m0 a0 ((),()) a2 a3 (ak (a4+1)):=kR
def aiJ {x0 x1}:Ev (LD (T m) m x0 x1 m ((.im x0.1.1,x0.1.2),(.im x0.2.1.1,x0.2.1.2),(.im x0.2.2.1.1,x0.2.2.1.2),()) ((),()) (0,0,0,()) (ae x0.2.2.1.2.length) 0) (T (m+1) 39 [pE,.one (.ptr (.e 1) 0 0)] [bx cL x0,bx jR x1]):=aR
def aiN {x0}:Ev (Fe (T m) x0.1.1 x0.1.2 x0.2.1.1 x0.2.1.2 x0.2.2.1.1 x0.2.2.1.2 [109,97,105,110] λv0=>bif decide (v0.1 < 0) then c46 (T m) 1504 (-1) (-1) λv1=>some (.agg [iC v1.1.1,iC v1.1.2.1,iC v1.1.2.2.1],[bx kq ((.im x0.1.1,x0.1.2),(.im x0.2.1.1,x0.2.1.2),(.im x0.2.2.1.1,x0.2.2.1.2),())]) else iR [.im 3] 1 1 x0.2.2.1.2 v0.1 λv4=>bif decide (ae v4.1.2.length > 0) then c46 (T m) 1504 (-1) (-1) λv5=>some (.agg [iC v5.1.1,iC v5.1.2.1,iC v5.1.2.2.1],[bx kq ((.im x0.1.1,x0.1.2),(.im x0.2.1.1,x0.2.1.2),(.im x0.2.2.1.1,x0.2.2.1.2),())]) else some (.agg [iC 0,iC 0,iC 0],[bx kq ((.im x0.1.1,x0.1.2),(.im x0.2.1.1,x0.2.1.2),(.im x0.2.2.1.1,x0.2.2.1.2),())])) (T (m+1) 44 [pE] [bx cL x0]):=aR
end
end Go.Proofs.YtfmpdgeiodnnfaaGreatDoor
