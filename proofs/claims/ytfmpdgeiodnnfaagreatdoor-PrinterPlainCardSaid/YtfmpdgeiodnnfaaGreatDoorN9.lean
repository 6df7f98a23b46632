/- A part of the proof. -/
import Derived.Test.YtfmpdgeiodnnfaaGreatDoorN1
import Derived.Test.YtfmpdgeiodnnfaaGreatDoorN5
import Derived.Test.YtfmpdgeiodnnfaaGreatDoorN6
import Derived.Test.YtfmpdgeiodnnfaaGreatDoorN7
import Derived.Test.YtfmpdgeiodnnfaaGreatDoorN8
import Derived.KernelRfl
import Derived.Test.YtfmpdgeiodnnfaaGreatDoorN3
set_option linter.all false
set_option maxRecDepth 100000
set_option maxHeartbeats 1000000
namespace Go.ax
section
def nh (n:Nat):ae n=(n:Int):=rfl
def agm (n:Nat):bL (n:Int)=some n:=by simp[bL]
def qd {x:Int} (h:0<=x):bL x=some x.toNat:=by simp[bL,h]
def wrap_i64 {x:Int} (h : -9223372036854775808<=x) (h':x<=9223372036854775807):IntKind.wrap .i64 x=x:=by
 simp[IntKind.wrap,IntKind.signed,IntKind.bits];omega
section
variable (T:Nat->Option lk) (pS:bX)
def Wm (f:Nat) (vs:List V) (bs:List (List C)) (r:V×List (List C)):Prop:=∃N,∀n,N<=n->nG T pS n f vs bs=some r
def Wm.of {T:Nat->Option lk} {pS:bX} {f:Nat} {k:vC} {an:iQ} {vs:List V} {bs:List (List C)} {r:V×List (List C)} (hT:T f=some k.fn)
  (h:∃N,∀n,N<=n->Fq an (nG T pS n) n k vs bs=some r):Wm T pS f vs bs r:=by
 obtain⟨N,h⟩:=h;refine⟨N+1,λn hn=>?_⟩;cases n with
 | zero=>omega
 | succ n=>
  show (match T f with | some fn=>vQ (nG T pS n) n fn vs bs | none=>pS f vs bs)=some r;rw[hT];exact YN (h n (by omega))
end
end
end Go.ax
namespace Go.Proofs.YtfmpdgeiodnnfaaGreatDoor.PT
section
open Go Go.ax
abbrev BB:=List UInt8
abbrev RR:=List (List D)
inductive TT where
 | lf (k:Int) (nm:BB) (n:Int) (tx:BB)
 | un (k:Int) (a:TT)
 | bi (k:Int) (a b:TT)
def row (k:Int) (nm:BB) (n:Int) (tx:BB) (x y:Int):List D:=[.int .i64 k,.str nm,.int .i64 n,.str tx,.int .i64 x,.int .i64 y]
def TT.size:TT->Nat
 | .lf .. => 1
 | .un _ a=>a.size+1
 | .bi _ a b=>a.size+b.size+1
def TT.deep:TT->Nat
 | .lf .. => 1
 | .un _ a=>a.deep+1
 | .bi _ a b=>max a.deep b.deep+1
def TT.rows:TT->Nat->RR
 | .lf k nm n tx,_=>[row k nm n tx (-1) (-1)]
 | .un k a,b=>a.rows b++[row k [] 0 [] ((b+a.size:Nat) - 1) (-1)]
 | .bi k a c,b=>a.rows b++c.rows (b+a.size)++[row k [] 0 [] ((b+a.size:Nat) - 1) ((b+a.size+c.size:Nat) - 1)]
def TT.at_ (l:RR):TT->Int->Prop
 | .lf k nm n tx,i=>∃j:Nat,i=j/\l[j]? = some (row k nm n tx (-1) (-1))
 | .un k a,i=>∃(j:Nat) (x:Int),i=j/\l[j]? = some (row k [] 0 [] x (-1))/\a.at_ l x
 | .bi k a c,i=>∃(j:Nat) (x y:Int),i=j/\l[j]? = some (row k [] 0 [] x y)/\a.at_ l x/\c.at_ l y
def rX (k:Int):BB:=
 if k=6 then[43] else if k=7 then[45] else if k=8 then[42] else if k=9 then[47] else if k=10 then[109,111,100] else if k=11 then[61,61] else if k=12 then[60]
 else if k=13 then[97,110,100] else if k=14 then[111,114] else[]
def uw (k:Int):BB:=if k=16 then[108,101,110] else if k=17 then[97,116] else if k=18 then[112,117,115,104] else[106,111,105,110]
def yr (k:Int):Bool:=decide (6<=k)&&decide (k<=14)
end
end Go.Proofs.YtfmpdgeiodnnfaaGreatDoor.PT
namespace Go.Proofs.YtfmpdgeiodnnfaaGreatDoor
section
open Go Go.ax
section
variable {R:Type}
def Ju (ds:List DS) (p:aq ds):qY [ds] [bx ds p]=some (p,()):=by
 have h:=ae6 ds p;unfold U9 at h;simp only[qY,h]
def pZ {vs:VS} {ds:List DS} {o:OR} {x:V} {v:vs.T} {p:aq ds} {K:(RS.val vs [ds]).T->Option R} {z:Option R} (h:o=some (x,[bx ds p])) (hd:qh vs x=some v) (h2:K (v,p,())=z):aA (.val vs [ds]) o K=z:=by
 subst h;simp only[aA,jH,hd,Ju];exact h2
def Ez {vs:VS} {o:OR} {x:V} {v:vs.T} {K:(RS.val vs []).T->Option R} {z:Option R} (h:o=some (x,[])) (hd:qh vs x=some v) (h2:K (v,())=z):aA (.val vs []) o K=z:=by
 subst h;simp only[aA,jH,hd,qY];exact h2
def aso {vs:List VS} {ds:List DS} {o:OR} {x:List V} {v:xu vs} {p:aq ds} {K:(RS.ao vs [ds]).T->Option R} {z:Option R} (h:o=some (.ao x,[bx ds p])) (hd:xK vs x=some v) (h2:K (v,p,())=z):aA (.ao vs [ds]) o K=z:=by
 subst h;simp only[aA,jH,hd,Ju];exact h2
def NS {vs:List VS} {o:OR} {x:List V} {v:xu vs} {K:(RS.ao vs []).T->Option R} {z:Option R} (h:o=some (.ao x,[])) (hd:xK vs x=some v) (h2:K (v,())=z):aA (.ao vs []) o K=z:=by
 subst h;simp only[aA,jH,hd,qY];exact h2
def iM {o:OR} {b:Bool} {K:(RS.val (.one .bool) []).T->Option R} {z:Option R} (h:o=some (.one (bC b),[])) (h2:K (b,())=z):aA (.val (.one .bool) []) o K=z:=Ez h rfl h2
def Bk {o:OR} {b:Int} {K:(RS.val (.one (.int .i64)) []).T->Option R} {z:Option R} (h:o=some (.one (iC b),[])) (h2:K (b,())=z):aA (.val (.one (.int .i64)) []) o K=z:=Ez h rfl h2
def Bl {o:OR} {b:BB} {K:(RS.val (.one .str) []).T->Option R} {z:Option R} (h:o=some (.one (sC b),[])) (h2:K (b,())=z):aA (.val (.one .str) []) o K=z:=Ez h rfl h2
def Ey {k:Nat} {o:OR} {b:Bool} {l:RR} {K:(RS.val (.one (.im k)) []).T->Option R} {z:Option R} (h:o=some (.one (lC (.im b) k l),[])) (h2:K ((b,l),())=z):aA (.val (.one (.im k)) []) o K=z:=
 Ez h (by simp[qh,vM,mU]) h2
def l8 {ds:List DS} {o:OR} {b:Int} {p:aq ds} {K:(RS.val (.one (.int .i64)) [ds]).T->Option R} {z:Option R} (h:o=some (.one (iC b),[bx ds p])) (h2:K (b,p,())=z):aA (.val (.one (.int .i64)) [ds]) o K=z:=pZ h rfl h2
def asl {ds:List DS} {o:OR} {b:BB} {p:aq ds} {K:(RS.val (.one .str) [ds]).T->Option R} {z:Option R} (h:o=some (.one (sC b),[bx ds p])) (h2:K (b,p,())=z):aA (.val (.one .str) [ds]) o K=z:=pZ h rfl h2
def aeY {ds:List DS} {k:Nat} {o:OR} {b:Bool} {l:RR} {p:aq ds} {K:(RS.val (.one (.im k)) [ds]).T->Option R} {z:Option R} (h:o=some (.one (lC (.im b) k l),[bx ds p])) (h2:K ((b,l),p,())=z):aA (.val (.one (.im k)) [ds]) o K=z:=
 pZ h (by simp[qh,vM,mU]) h2
def U4 {ds:List DS} {o:OR} {p:aq ds} {K:(RS.ao [] [ds]).T->Option R} {z:Option R} (h:o=some (.ao [],[bx ds p])) (h2:K ((),p,())=z):aA (.ao [] [ds]) o K=z:=aso h rfl h2
def eI {b:Bool} {x z:Option R} (h:b=true) (h2:x=z):gd b x=z:=by subst h;exact h2
def dz {b:Bool} {x y z:R} (h:b=true) (h2:x=z):(bif b then x else y)=z:=by subst h;exact h2
def bj {b:Bool} {x y z:R} (h:b=false) (h2:y=z):(bif b then x else y)=z:=by subst h;exact h2
def qo {β:Type} {o:Option β} {b:β} {K:β->Option R} {z:Option R} (h:o=some b) (h2:K b=z):ay o K=z:=by subst h;exact h2
def I3 (n:Nat):bL (n:Int)=some n:=by unfold bL;simp
def qd {z:Int} {n:Nat} (h:z=(n:Int)):bL z=some n:=by subst h;exact I3 n
def cm (n:Nat):ae n=(n:Int):=rfl
def xe {b:Bool} {f:Tag->Option R} {z:Option R} (h:f (.im b)=z):zZ (.im b) f=z:=h
def mG {f:Tag->Option R} {z:Option R} (h:f .own=z):zZ .own f=z:=h
def akx {n:Nat} {x z:Option R} (h:n<=100000000000000) (h2:x=z):aO n x=z:=by
 unfold aO;rw[show decide (n<=9223372036854775807)=true from aM (by omega)];exact h2
end
def yR {ds:List DS} {c n:Nat} {L:RR} {i:Nat} {r:List D} {v:aq ds} {K:aq ds->OR} {z:OR} (h:L[i]? = some r) (hl:c+n<=r.length) (hd:dI ds (List.take n (List.drop c r))=some v) (h2:K v=z):rA ds c n L i K=z:=by
 unfold rA;refine qo h ?_;rw[show decide (n<=(List.drop c r).length)=true from aM (by simp;omega)];simp only[ua,bR,hd];exact h2
def fZ {ds:List DS} {c n:Nat} {L:RR} {x:Int} {i:Nat} {r:List D} {v:aq ds} {K:aq ds->OR} {z:OR} (hx:x=(i:Int)) (h:L[i]? = some r) (hl:c+n<=r.length) (hd:dI ds (List.take n (List.drop c r))=some v) (h2:K v=z):iR ds c n L x K=z:=by
 unfold iR;exact qo (qd hx) (yR h hl hd h2)
def rz {ds:List DS} {c n:Nat} {L:RR} {x:Int} {i:Nat} {r:List D} {v:aq ds} {K:aq ds->OR} {z:OR} (hx:x=(i:Int)) (h:L[i]? = some r) (hl:c+n<=r.length) (hd:dI ds (List.take n (List.drop c r))=some v) (h2:K v=z):iV ds c n L x K=z:=by
 unfold iV;refine qo (qd hx) (eI (aM (cd.1 h).1) (qo (b:=r) (by rw[cQ];exact h) (eI (aM hl) ?_)));simp only[bR,hd];exact h2
def EF {z:Int} (h0 : -9223372036854775808<=z) (h1:z<=9223372036854775807):ak z=z:=wrap_i64 h0 h1
def bl (k n:Nat) (h:k<=n:=by omega):∃r,n=r+k:=⟨n - k,by omega⟩
def bT {m k:Nat} (h:k<=m) (h0:0 < k:=by omega):∃j,m=j+1:=⟨m - 1,by omega⟩
def bW {A B:Type} {f:A->B} {l:List A} {i:Nat} (h:decide ((i:Int) < ae (l.map f).length)=true):i < l.length:=by
 have g:=sn h;rw[cm,cX] at g;omega
def gE {A:Type} {l:List A} {i:Nat} (h:i < l.length):l[i]? = some l[i]:=kI h
def iP {z:Int} {n:Nat} (h:z=n:=by omega) (hn:n<=1000000000000000000:=by omega):ak z=(n:Int):=by subst h;exact EF (by omega) (by omega)
def wI (i:Nat) (h:i+1<=1000000000000000000:=by omega):ak ((i:Int)+1)=((i+1:Nat):Int):=iP rfl h
def dZ (l:RR):whole l=l:=by unfold whole;simp
section
variable {R:Type}
def tH (b:Bool) (K:Bool×Unit->Option R):aA (.val (.one .bool) []) (some (.one (bC b),[])) K=K (b,()):=rfl
def w6 (b:BB) (K:BB×Unit->Option R):aA (.val (.one .str) []) (some (.one (sC b),[])) K=K (b,()):=rfl
def oo {b:Bool} {x:Option R} (h:b=true):gd b x=x:=by subst h;rfl
def dO {b:Bool} {x y:R} (h:b=true):(bif b then x else y)=x:=by subst h;rfl
def dy {b:Bool} {x y:R} (h:b=false):(bif b then x else y)=y:=by subst h;rfl
def Eb {z:Int} {n:Nat} (K:Nat->Option R) (h:z=(n:Int)):ay (bL z) K=K n:=by subst h;rw[agm];rfl
def qO {β:Type} {o:Option β} {b:β} (K:β->Option R) (h:o=some b):ay o K=K b:=by subst h;rfl
end
structure TK where
 k:Int
 s:BB
 a:Int
end
section
open Go Go.ax PT
def Wp (o:OR) (Q:V->List (List C)->Prop):Prop:=∃v bs,o=some (v,bs)/\Q v bs
abbrev J (rs:RS) (K:rs.T->OR) (Q:V->List (List C)->Prop):V->List (List C)->Prop:=λv bs=>Wp (aA rs (some (v,bs)) K) Q
section
variable {o x y:OR} {Q Q':V->List (List C)->Prop}
def aB {v:V} {bs:List (List C)} (h:Q v bs):Wp (some (v,bs)) Q:=⟨v,bs,rfl,h⟩
def aG (h:o=x) (h2:Wp x Q):Wp o Q:=h▸h2
def Wp.mono (h:Wp o Q) (h2:∀v bs,Q v bs->Q' v bs):Wp o Q':=by
 obtain⟨v,bs,e,q⟩:=h;exact⟨v,bs,e,h2 v bs q⟩
def aj {b:Bool} (h:b=true->Wp x Q) (h':b=false->Wp y Q):Wp (bif b then x else y) Q:=by
 cases b
 ·exact h' rfl
 ·exact h rfl
def cF {b:Bool} (hb:b=true) (h:Wp x Q):Wp (bif b then x else y) Q:=by subst hb;exact h
def eW {b:Bool} (hb:b=false) (h:Wp y Q):Wp (bif b then x else y) Q:=by subst hb;exact h
def az {b:Bool} (hb:b=true) (h:Wp x Q):Wp (gd b x) Q:=by subst hb;exact h
def bE {n:Nat} (hn:n<=9223372036854775807) (h:Wp x Q):Wp (aO n x) Q:=by
 unfold aO;rw[show decide (n<=9223372036854775807)=true from aM hn];exact h
def eg {β:Type} {a:Option β} {b:β} {K:β->OR} (ha:a=some b) (h:Wp (K b) Q):Wp (ay a K) Q:=by subst ha;exact h
def iA {z:Int} {n:Nat} {K:Nat->OR} (hz:z=(n:Int)) (h:Wp (K n) Q):Wp (ay (bL z) K) Q:=eg (qd hz) h
def ij {f:Tag->OR} (h:Wp (f .own) Q):Wp (zZ .own f) Q:=h
def eL {b:Bool} {f:Tag->OR} (h:Wp (f (.im b)) Q):Wp (zZ (.im b) f) Q:=h
def gi {ds:List DS} {l:List D} {v:aq ds} {K:aq ds->OR} (hd:dI ds l=some v) (h:Wp (K v) Q):Wp (bR ds l K) Q:=by
 simp only[bR,hd];exact h
def aS {X:Type} {ds:List DS} {c n:Nat} {L:List X} {enc:X->List D} {f:X->aq ds} (hd:∀a,c+n<=(enc a).length/\dI ds (List.take n (List.drop c (enc a)))=some (f a)) {z:Int} {i:Nat} {K:aq ds->OR} (hz:z=(i:Int)) {a:X} (ha:L[i]? = some a) (h:Wp (K (f a)) Q):Wp (iR ds c n (L.map enc) z K) Q:=
 aG (fZ hz (r:=enc a) (by rw[bQ,ha];rfl) (hd a).1 (hd a).2 rfl) h
def nX {X:Type} {ds:List DS} {c n:Nat} {L:List X} {enc:X->List D} {f:X->aq ds} (hd:∀a,c+n<=(enc a).length/\dI ds (List.take n (List.drop c (enc a)))=some (f a)) {z:Int} {i:Nat} {K:aq ds->OR} (hz:z=(i:Int)) {a:X} (ha:L[i]? = some a) (h:Wp (K (f a)) Q):Wp (iV ds c n (L.map enc) z K) Q:=
 aG (rz hz (r:=enc a) (by rw[bQ,ha];rfl) (hd a).1 (hd a).2 rfl) h
end
end
end Go.Proofs.YtfmpdgeiodnnfaaGreatDoor
namespace Go.Proofs.YtfmpdgeiodnnfaaGreatDoor.QQ
section
open Go Go.ax
def bN (x:Int):List D:=[.int .i64 x]
def qF:∀a:Int,1<=(bN a).length/\dI bO (List.take 1 (List.drop 0 (bN a)))=some ((λb=>(b,())) a):=(λa=>⟨by simp[bN],rfl⟩)
def cu (d:aq ah):Prop:=∃(t:Tag) (l:List Int) (a:Nat),d=((t,l.map bN),(a:Int),())/\a<=l.length/\l.length<=100000000000000000
def afc {z:Int} {n:Nat} (h:z=n) (hn:n<=1000000000000000000):ak z=(n:Int):=by subst h;exact EF (by omega) (by omega)
def MU (x:Int) {k:Nat} (hk:1<=k) (kP:k<=1000000000):bY (k:Int)=k/\∃j:Nat,ak ((bY x).tmod (bY (k:Int)))=j/\j < k:=by
 have hw:bY (k:Int)=k:=by
  show IntKind.wrap .u64 _=_;simp only[IntKind.wrap,IntKind.signed,IntKind.bits];simp;omega
 refine⟨hw,?_⟩;rw[hw];have h0:0<=bY x:=by
  show 0<=IntKind.wrap .u64 _;simp only[IntKind.wrap,IntKind.signed,IntKind.bits];simp;omega
 have h1:(bY x).tmod (k:Int)=(bY x) % (k:Int):=VD h0;rw[h1];have h2:=Int.emod_nonneg (bY x) (show (k:Int)≠0 by omega);have h3:=Int.emod_lt_of_pos (bY x) (show (0:Int) < k by omega);exact⟨((bY x) % (k:Int)).toNat,by rw[EF (by omega) (by omega)];omega,by omega⟩
def pick (n:Nat) (hn:3<=n) {k:Nat} (hk:1<=k) (kP:k<=1000000) {d:aq ah} (hd:cu d) :
  ∃(j:Nat) (d':aq ah),j < k/\cu d'/\T n 73 [pE,.one (iC k)] [bx ah d]=some (.one (iC j),[bx ah d']):=by
 obtain⟨m,rfl⟩:=bl 3 n;obtain⟨t,l,a,rfl,ha,hl⟩:=hd;have nJ:decide ((k:Int) < 1)=false:=bm (by omega);by_cases af:a < l.length
 ·have fB:decide ((a:Int)>=ae (l.map bN).length)=false:=bm (by rw[cm];simp;omega);obtain⟨hw,j,hj,Z3⟩:=MU (l[a]) hk (by omega);have hnz:(!decide (bY (k:Int)=0))=true:=by rw[hw];simp;omega
  have hg:(l.map bN)[a]? = some [.int .i64 l[a]]:=by rw[bQ,gE af];rfl
  have hs:ak ((a:Int)+1)=((a+1:Nat):Int):=afc (by omega) (by omega);have hx:ak (ak ((a:Int)+1) - 1)=(a:Int):=by rw[hs];exact afc (by omega) (by omega)
  cases t with
  | im b=>
   refine⟨j,((.im b,l.map bN),((a+1:Nat):Int),()),Z3,⟨_,l,a+1,rfl,by omega,hl⟩,P3 _ ?_⟩;refine bj nJ (xe (bj fB ?_));rw[aaO];refine xe (fZ (v:=(l[a],())) hx hg (by simp) rfl (eI hnz ?_));dsimp only;rw[hj,hs]
  | own=>
   refine⟨j,((.own,l.map bN),((a+1:Nat):Int),()),Z3,⟨_,l,a+1,rfl,by omega,hl⟩,P3 _ ?_⟩;refine bj nJ (mG (bj fB ?_));rw[aaO];refine mG (rz (v:=(l[a],())) hx hg (by simp) rfl (eI hnz ?_));dsimp only;rw[hj,hs]
 ·have fB:decide ((a:Int)>=ae (l.map bN).length)=true:=aM (by rw[cm];simp;omega);refine⟨0,((t,l.map bN),(a:Int),()),by omega,⟨t,l,a,rfl,ha,hl⟩,P3 _ ?_⟩;refine bj nJ ?_;cases t with
  | im b=>exact xe (dz fB rfl)
  | own=>exact mG (dz fB rfl)
end
section
open Go Go.ax
def AQ:List BB:=[[119],[120],[121],[122],[111,107]]
def jb:List (Int×BB):=[(0,[]),(1,[]),(2,[]),(3,[]),(4,[]),(5,[112,46,97]),(5,[112,46,98]),(5,[112,46,99]),(5,[112,46,100]),(5,[113,46,97]),(5,[113,46,98]),(5,[113,46,99]),(5,[113,46,100])]
structure AM where
 eK:BB
 kd:Int
 nm:BB
 nx:Nat
def cM (a:AM):List D:=[.str a.eK,.int .i64 a.kd,.str a.nm,.int .i64 (a.nx:Int)]
def Na:∀a:AM,1+2<=(cM a).length/\dI jS (List.take 2 (List.drop 1 (cM a)))=some ((λa=>(a.kd,a.nm,())) a):=(λa=>⟨by simp[cM],rfl⟩)
def Uc:∀a:AM,1<=(cM a).length/\dI [DS.str] (List.take 1 (List.drop 0 (cM a)))=some ((λa=>(a.eK,())) a):=(λa=>⟨by simp[cM],rfl⟩)
def Ed:∀a:AM,3+1<=(cM a).length/\dI bO (List.take 1 (List.drop 3 (cM a)))=some ((λa=>((a.nx:Int),())) a):=(λa=>⟨by simp[cM],rfl⟩)
def DZ (P:Nat) (a:AM):Prop:=a.eK∈AQ/\(a.kd,a.nm)∈jb/\a.nx < P
def D0 (P:Nat) (l:List AM):Prop:=1<=l.length/\l.length<=3/\(l.map AM.eK).Nodup/\∀a∈l,DZ P a
def ie (s:List BB):RR:=s.map λx=>[.str x]
def nP (s:List BB):Prop:=s.length<=5/\∀x∈s,((5:Int),x)∈jb
def adG (n:Nat) (hn:1<=n):T n 48 [] []=some (.one (lC (.im false) 1 [[.str [97]],[.str [98]],[.str [99]],[.str [100]],[.str [101]]]),[]):=by
 obtain⟨m,rfl⟩:=bl 1 n;exact Yq _ rfl
def Mp (n:Nat) (hn:1<=n):T n 49 [] []=some (.one (lC (.im false) 1 [[.str [119]],[.str [120]],[.str [121]],[.str [122]]]),[]):=by
 obtain⟨m,rfl⟩:=bl 1 n;exact Yp _ rfl
def Jt (n:Nat) (hn:4<=n) {d:aq ah} (hd:cu d):∃(k:Int) (d':aq ah),(k,[])∈jb/\cu d'/\T n 184 [pE] [bx ah d]=some (.agg [iC k,sC []],[bx ah d']):=by
 obtain⟨m,rfl⟩:=bl 1 n;obtain⟨j,d',hj,dD,e⟩:=pick m (by omega) (k:=6) (by omega) (by omega) hd;have hk:∃k:Int,([[.int .i64 1],[.int .i64 0],[.int .i64 1],[.int .i64 2],[.int .i64 3],[.int .i64 4]]:RR)[j]? = some [.int .i64 k]/\(k,([]:BB))∈jb:=by
  match j,hj with
  | 0,_=>exact⟨1,rfl,by decide⟩
  | 1,_=>exact⟨0,rfl,by decide⟩
  | 2,_=>exact⟨1,rfl,by decide⟩
  | 3,_=>exact⟨2,rfl,by decide⟩
  | 4,_=>exact⟨3,rfl,by decide⟩
  | 5,_=>exact⟨4,rfl,by decide⟩
 obtain⟨k,hk,yh⟩:=hk;refine⟨k,d',yh,dD,ahH _ ?_⟩;refine l8 e ?_;dsimp only;refine qo (I3 j) (eI (aM hj) (qo (b:=[.int .i64 k]) ?_ (eI rfl rfl)));rw[cQ];exact hk
def Pv (n:Nat) (hn:6<=n) (b:Bool) {s:List BB} (hs:nP s) {d:aq ah} (hd:cu d) :
  ∃(k:Int) (x:BB) (d':aq ah),(k,x)∈jb/\cu d'/\T n 128 [pE,.one (lC (.im b) 1 (ie s))] [bx ah d]=some (.agg [iC k,sC x],[bx ah d']):=by
 obtain⟨m,rfl⟩:=bl 2 n;have hl:ae (ie s).length=(s.length:Int):=by rw[cm];simp[ie]
 by_cases h0:s.length=0
 ·obtain⟨k,d2,hk,fh,e2⟩:=Jt (m+1) (by omega) hd;refine⟨k,[],d2,hk,fh,P4 _ ?_⟩;refine bj (bm (by rw[hl];omega)) ?_;rw[aaU];exact pZ e2 rfl rfl
 ·have hp:decide (ae (ie s).length > 0)=true:=aM (by rw[hl];omega);obtain⟨j,d1,hj,cA,e1⟩:=pick (m+1) (by omega) (k:=4) (by omega) (by omega) hd;by_cases h1:j=1
  ·obtain⟨i,d2,hi,fh,e2⟩:=pick (m+1) (by omega) (k:=s.length) (by omega) (by have:=hs.1;omega) cA;refine⟨5,s[i],d2,hs.2 _ (bU hi),fh,P4 _ ?_⟩;refine dz hp (l8 e1 ?_);dsimp only;refine dz (by subst h1;rfl) (l8 (b:=(i:Int)) (p:=d2) (by rw[hl];exact e2) ?_);dsimp only;exact fZ (v:=(s[i],())) (r:=[.str s[i]]) rfl (by simp[ie,hi]) (by simp) rfl rfl
  ·obtain⟨k,d2,hk,fh,e2⟩:=Jt (m+1) (by omega) cA;refine⟨k,[],d2,hk,fh,P4 _ ?_⟩;refine dz hp (l8 e1 ?_);dsimp only;refine bj (show ((j:Int)==1)=false from lI.2 (by omega)) ?_;rw[aaU];exact pZ e2 rfl rfl
def mA (q:Nat):BB:=[UInt8.ofNat (119+q % 4)]
def Mm (q:Nat):([[.str [119]],[.str [120]],[.str [121]],[.str [122]]]:RR)[q % 4]? = some [.str (mA q)]:=by
 unfold mA;have:q % 4 < 4:=EM _ (by omega);generalize q % 4=i at this;match i,this with
 | 0,_=>rfl
 | 1,_=>rfl
 | 2,_=>rfl
 | 3,_=>rfl
def Mn (q:Nat):mA q∈AQ:=by
 unfold mA;have:q % 4 < 4:=EM _ (by omega);generalize q % 4=i at this;match i,this with
 | 0,_=>decide
 | 1,_=>decide
 | 2,_=>decide
 | 3,_=>decide
def abl {q r:Nat} (h:mA q=mA r):q % 4=r % 4:=by
 unfold mA at h;have h1:q % 4 < 4:=EM _ (by omega);have h2:r % 4 < 4:=EM _ (by omega);generalize q % 4=i at *;generalize r % 4=j at *;match i,h1,j,h2 with
 | 0,_,0,_=>rfl
 | 1,_,1,_=>rfl
 | 2,_,2,_=>rfl
 | 3,_,3,_=>rfl
 | 0,_,1,_=>cases h
 | 0,_,2,_=>cases h
 | 0,_,3,_=>cases h
 | 1,_,0,_=>cases h
 | 1,_,2,_=>cases h
 | 1,_,3,_=>cases h
 | 2,_,0,_=>cases h
 | 2,_,1,_=>cases h
 | 2,_,3,_=>cases h
 | 3,_,0,_=>cases h
 | 3,_,1,_=>cases h
 | 3,_,2,_=>cases h
def aeU (q:Nat):((q:Int)).tmod 4=((q % 4:Nat):Int):=by
 rw[VD (by omega)];omega
def xb (l:RR) (x y:List D):l++[x].set 0 y=l++[y]:=rfl
def room {l:RR} {k:Nat} (h:l.length<=1000) (hk:k<=1000):(l.length==l.length&&true&&decide ((l.length+1) * k<=140737488355328))=true:=by
 have:(l.length+1) * k<=1001 * 1000:=V6 (by omega) hk;simp;omega
def acL:∀l:List AM,aK (l.map cM)=l.map cM
 | []=>rfl
 | a::t=>by
  simp only[e9,aK,acL t];rfl
def WZ (m q:Nat) (hm:6<=m) (b:Bool) {s:List BB} (hs:nP s) (P:Nat) (hP:1<=P) (Ae:P<=1000) (x3:aq ah) (N fr:Nat) (hN:N<=3) (An:fr < 4) :
  ∀(k i:Nat) (l:List AM) (d:aq ah),N - i < k->i<=N->1<=i->l.length=i->(∀a∈l,DZ P a)->l.map AM.eK=(List.range i).map (λj=>mA (fr+j))->cu d->
   ∃(l':List AM) (d':aq ah),D0 P l'/\cu d'/\KY (T m) q x3 k b (ie s) (P:Int) d (l.map cM) (N:Int) (fr:Int) (i:Int)=some (.one (lC (.im false) 4 (l'.map cM)),[bx ah d'])
 | 0,i,l,d,h,_,_,_,_,_,_=>by omega
 | k+1,i,l,d,h,hi,hi1,hl,bh,Kd,hd=>by
  by_cases af:i < N
  ·obtain⟨kd,x,d1,hc,cA,e1⟩:=Pv m (by omega) b hs hd;obtain⟨j,d2,hj,fh,e2⟩:=pick m (by omega) (k:=P) hP (by omega) cA;obtain⟨l',d',h1,h2,h3⟩:=WZ m q hm b hs P hP Ae x3 N fr hN An k (i+1) (l++[⟨mA (fr+i),kd,x,j⟩]) d2 (by omega) (by omega) (by omega) (by simp[hl])
    (by intro a ha;rw[dk] at ha;rcases ha with ha | ha;exact bh a ha;simp at ha;subst ha;exact⟨Mn _,hc,hj⟩)
    (by rw[eF,Kd,Oj,eF];rfl) fh
   refine⟨l',d',h1,h2,?_⟩;rw[aaT];refine dz (aM (by omega)) (Ey (Mp m (by omega)) ?_);dsimp only;have hw:ak ((fr:Int)+(i:Int))=((fr+i:Nat):Int):=iP;refine fZ (i:=(fr+i) % 4) (v:=(mA (fr+i),())) (by rw[hw,aeU]) (Mm _) (by simp) rfl ?_;dsimp only;refine pZ e1 rfl ?_;dsimp only;refine l8 e2 (eI (room (by simp;omega) (by omega)) ?_);dsimp only;rw[xb,wI i];rw[show List.map cM l++[[D.str (mA (fr+i)),D.int .i64 kd,D.str x,D.int .i64 (j:Int)]]=List.map cM (l++[⟨mA (fr+i),kd,x,j⟩]) by simp[cM]];exact h3
  ·obtain rfl:i=N:=by omega
   refine⟨l,d,⟨by omega,by omega,?_,bh⟩,hd,?_⟩
   ·rw[Kd];rw[List.nodup_iff_pairwise_ne,List.pairwise_map];refine List.Pairwise.imp_of_mem (R:=λa b=>a < b) ?_ af1;intro a c ha hc hac e;have:=abl e;simp at ha hc;omega
   ·rw[aaT];refine bj (bm (by omega)) (eI (aM (by omega)) ?_);rw[dZ,acL]
def agl (n:Nat) (hn:10<=n) (b:Bool) {s:List BB} (hs:nP s) (P:Nat) (hP:1<=P) (Ae:P<=1000) {d:aq ah} (hd:cu d) :
  ∃(l:List AM) (d':aq ah),D0 P l/\cu d'/\T n 74 [pE,.one (lC (.im b) 1 (ie s)),.one (iC P)] [bx ah d]=some (.one (lC (.im false) 4 (l.map cM)),[bx ah d']):=by
 obtain⟨m,rfl⟩:=bl 2 n;obtain⟨N,d1,hN,cA,e1⟩:=pick (m+1) (by omega) (k:=3) (by omega) (by omega) hd;obtain⟨fr,d2,An,fh,e2⟩:=pick (m+1) (by omega) (k:=4) (by omega) (by omega) cA;obtain⟨kd,x,d3,hc,sX,e3⟩:=Pv (m+1) (by omega) b hs fh;obtain⟨j,d4,hj,Ak,e4⟩:=pick (m+1) (by omega) (k:=P) hP (by omega) sX;obtain⟨l',d',h1,h2,h3⟩:=WZ (m+1) (m+1) (by omega) b hs P hP Ae d (N+1) fr (by omega) An m 1 [⟨mA fr,kd,x,j⟩] d4 (by omega) (by omega) (by omega) rfl
  (by intro a ha;simp at ha;subst ha;exact⟨Mn _,hc,hj⟩) rfl Ak
 refine⟨l',d',h1,h2,ahR _ ?_⟩;refine l8 e1 (l8 e2 ?_);dsimp only;rw[amw];rw[show ak (1+(N:Int))=((N+1:Nat):Int) from iP];refine dz (aM (by omega)) (Ey (Mp (m+1) (by omega)) ?_);dsimp only;have hw:ak ((fr:Int)+0)=(fr:Int):=iP;refine fZ (i:=fr % 4) (v:=(mA fr,())) (by rw[hw,aeU]) (Mm _) (by simp) rfl ?_;dsimp only;refine pZ e3 rfl ?_;dsimp only;refine l8 e4 (eI rfl ?_);exact h3
end
section
open Go Go.ax
variable {nm:BB}
def cK (k:Nat):BB:=[UInt8.ofNat (97+k)]
def eV (many:Nat):RR:=(List.range many).map λk=>[.str (cK k)]
structure PT where
 fr:BB
 to:BB
 t:Bool
 ms:List AM
def cP (p:PT):List D:=[.str p.fr,.str p.to,.sl (.im p.t) 4 (p.ms.map cM)]
def Nb:∀a:PT,2+1<=(cP a).length/\dI [DS.im 4] (List.take 1 (List.drop 2 (cP a)))=some ((λp=>((p.t,p.ms.map cM),())) a):=(λa=>⟨by simp[cP],rfl⟩)
def HR:∀a:PT,0+3<=(cP a).length/\dI kE (List.take 3 (List.drop 0 (cP a)))=some ((λp=>(p.fr,p.to,(p.t,p.ms.map cM),())) a):=(λa=>⟨by simp[cP],rfl⟩)
def D2 (P many:Nat) (p:PT):Prop:=(p.fr=[]/\p.to=[]/\p.ms=[])\/∃k m,k < many/\m < many/\k≠m/\p.fr=cK k/\p.to=cK m/\D0 P p.ms
def oP (many:Nat) (ps:List PT):Prop:=2<=many/\many<=4/\1<=ps.length/\ps.length<=8/\∀p∈ps,D2 ps.length many p
def acQ:∀l:List PT,aK (l.map cP)=l.map cP
 | []=>rfl
 | a::t=>by
  simp only[e9,aK,acQ t];rfl
def acU:∀l:List BB,aK (l.map λs=>[.str s])=l.map λs=>[D.str s]
 | []=>rfl
 | a::t=>by
  simp only[e9,aK,acU t];rfl
def aqp (many:Nat):aK (eV many)=eV many:=by
 have:=acU ((List.range many).map cK);rw[IJ] at this;exact this
def tJ (many:Nat):(eV many).length=many:=by simp[eV]
def aq2 {many:Nat} (h:many≠0):eV many≠[]:=by
 intro e;have:=fW List.length e;rw[tJ] at this;exact h this
def pU {many k:Nat} (h:k < many):(eV many)[k]? = some [.str (cK k)]:=by simp[eV,h]
def g1 {r:RR} (h:r≠[]):(r.length==r.length && !r.isEmpty)=true:=by
 cases r with
 | nil=>exact absurd rfl h
 | cons=>simp
def g2 (r:RR):decide (0+r.length<=r.length)=true:=by simp
def asb {q k:Nat}:((q:Int)).tmod (k:Int)=((q % k:Nat):Int):=by
 rw[VD (by omega)];omega
def mH (r:RR):Tag×RR:=(match r with | []=>.im true | _=>.own,r)
def ar' (r:RR) (x:List D):mH (r++[x])=(.own,r++[x]):=by
 cases r<;>rfl
def WO (m q:Nat) (hm:10<=m) (b:Bool) {s:List BB} (hs:nP s) (many N:Nat) (h2:2<=many) (h4:many<=4) (hN:N<=6) (QI:1<=N) (x4:aq ah) (z:aq nq) :
  ∀(k i:Nat) (ps:List PT) (d:aq ah),N - i < k->i<=N->ps.length=i->(∀p∈ps,D2 (N+1) many p)->cu d->
   ∃(MZ:List PT) (d':aq ah),oP many MZ/\cu d'/\KX (T m) q x4 k (many:Int) b (ie s) d z (N:Int) (nm,(.own,eV many),mH (ps.map cP),()) (i:Int) =
    some (.agg [sC nm,lC (.im false) 1 (eV many),lC (.im false) 3 (MZ.map cP)],[bx ah d'])
 | 0,i,ps,d,h,_,_,_,_=>by omega
 | k+1,i,ps,d,h,hi,hl,bh,hd=>by
  have hz:(!decide ((many:Int)=0))=true:=by simp;omega
  by_cases af:i < N
  ·obtain⟨j,d1,hj,cA,e1⟩:=pick m (by omega) (k:=many) (by omega) (by omega) hd;obtain⟨j2,d2,lx,fh,e2⟩:=pick m (by omega) (k:=many - 1) (by omega) (by omega) cA;obtain⟨ms,d3,C1,sX,e3⟩:=agl m (by omega) b hs (N+1) (by omega) (by omega) fh;have Gk:(j+1+j2) % many < many:=EM _ (by omega);have aD:j≠(j+1+j2) % many:=by
    intro e;by_cases hq:j+1+j2 < many
    ·rw[IF hq] at e;omega
    ·rw[Nat.mod_eq_sub_mod (by omega),IF (by omega)] at e;omega
   obtain⟨MZ,d',pD,zY,g3⟩:=WO m q hm b hs many N h2 h4 hN QI x4 z k (i+1) (ps++[⟨cK j,cK ((j+1+j2) % many),false,ms⟩]) d3 (by omega) (by omega) (by simp[hl])
    (by intro a ha;rw[dk] at ha;rcases ha with ha | ha;exact bh a ha;simp at ha;subst ha;exact .inr ⟨j,_,hj,Gk,aD,rfl,rfl,C1⟩) sX
   refine⟨MZ,d',pD,zY,?_⟩;rw[eF,show List.map cP [⟨cK j,cK ((j+1+j2) % many),false,ms⟩]=[cP ⟨cK j,cK ((j+1+j2) % many),false,ms⟩] from rfl,ar'] at g3;rw[aaR];refine dz (aM (by omega)) (l8 e1 ?_);dsimp only;rw[show ak ((many:Int) - 1)=((many - 1:Nat):Int) from iP];refine l8 e2 (eI hz ?_);dsimp only;have hw:ak (ak ((j:Int)+1)+(j2:Int))=((j+1+j2:Nat):Int):=by rw[wI j];exact iP
   have hx:(ak (ak ((j:Int)+1)+(j2:Int))).tmod (many:Int)=(((j+1+j2) % many:Nat):Int):=by rw[hw,asb]
   have nO:=wI N;have Kq:=wI i;cases ps with
   | nil=>
    refine xe (mG (rz (v:=(cK j,())) rfl (pU hj) (by simp) rfl ?_));dsimp only;refine rz (v:=(cK ((j+1+j2) % many),())) hx (pU Gk) (by simp) rfl ?_;dsimp only;rw[nO];refine aeY e3 (eI rfl ?_);dsimp only;rw[Kq];exact g3
   | cons p ps=>
    refine mG (mG (rz (v:=(cK j,())) rfl (pU hj) (by simp) rfl ?_));dsimp only;refine rz (v:=(cK ((j+1+j2) % many),())) hx (pU Gk) (by simp) rfl ?_;dsimp only;rw[nO];refine aeY e3 (eI (room (by simp only[mH,cX];omega) (by omega)) ?_);dsimp only;rw[Kq];exact g3
  ·obtain rfl:i=N:=by omega
   refine⟨ps++[⟨[],[],true,[]⟩],d,⟨h2,h4,by simp,by simp;omega,?_⟩,hd,?_⟩
   ·intro p hp;rw[dk] at hp;rcases hp with hp | hp
    ·rw[fH,hl];exact bh p hp
    ·simp at hp;subst hp;exact .inl ⟨rfl,rfl,rfl⟩
   ·rw[aaR];refine bj (bm (by omega)) ?_;cases ps with
    | nil=>simp at hl;omega
    | cons p ps=>
     refine mG (eI (room (by simp only[mH,cX];omega) (by omega)) (mG (eI (g1 (aq2 (by omega))) (eI (g1 (by simp[mH])) (eI (g2 _) (eI (g2 _) ?_))))));simp only[zB,zW,zM,dZ,aqp];rw[xb,show ([D.str [],D.str [],D.sl (.im true) 4 []]:List D)=cP ⟨[],[],true,[]⟩ from rfl];rw[show (mH (List.map cP (p::ps))).2++[cP ⟨[],[],true,[]⟩]=List.map cP (p::ps++[⟨[],[],true,[]⟩]) by simp[mH],acQ]
def aeP {many:Nat} (h2:2<=many) (h4:many<=4):List.take (many - 0) (List.drop 0 ([[.str [97]],[.str [98]],[.str [99]],[.str [100]],[.str [101]]]:RR))=eV many:=by
 match many,h2,h4 with
 | 2,_,_=>rfl
 | 3,_,_=>rfl
 | 4,_,_=>rfl
def OJ (n:Nat) (hn:20<=n) (b:Bool) {s:List BB} (hs:nP s) (many:Nat) (h2:2<=many) (h4:many<=4) {d:aq ah} (hd:cu d) :
  ∃(ps:List PT) (d':aq ah),oP many ps/\cu d'/\T n 138 [pE,.one (sC nm),.one (iC many),.one (lC (.im b) 1 (ie s))] [bx ah d] =
   some (.agg [sC nm,lC (.im false) 1 (eV many),lC (.im false) 3 (ps.map cP)],[bx ah d']):=by
 obtain⟨m,rfl⟩:=bl 2 n;obtain⟨N,d1,hN,cA,e1⟩:=pick (m+1) (by omega) (k:=6) (by omega) (by omega) hd;obtain⟨ps,d',g1,g2,g3⟩:=WO (nm:=nm) (m+1) (m+1) (by omega) b hs many (N+1) h2 h4 (by omega) (by omega) d ([],((.im true),[]),((.im true),[]),()) (m+1) 0 [] d1 (by omega) (by omega) rfl (by intro p hp;cases hp) cA;refine⟨ps,d',g1,g2,ahQ _ ?_⟩;refine l8 e1 (Ey (adG (m+1) (by omega)) (qo (I3 _) ?_));dsimp only;rw[aeP h2 h4];have hl:=tJ many;refine eI (aM (by simp;omega)) (eI ?_ (bj ?_ ?_))
 ·rw[hl];match many,h2,h4 with
  | 2,_,_=>rfl
  | 3,_,_=>rfl
  | 4,_,_=>rfl
 ·match many,h2,h4 with
  | 2,_,_=>rfl
  | 3,_,_=>rfl
  | 4,_,_=>rfl
 ·rw[amv,show ak (1+(N:Int))=((N+1:Nat):Int) from iP];exact g3
end
section
open Go Go.ax
variable {nm:BB}
def apX {P:Nat} {a:AM} (h:DZ P a):D0 P [a]:=⟨by simp,by simp,by simp,λx hx=>by simp at hx;subst hx;exact h⟩
def apY {P:Nat} {a b:AM} (h:DZ P a) (h':DZ P b) (hn:a.eK≠b.eK):D0 P [a,b]:=
 ⟨by simp,by simp,by simpa using hn,λx hx=>by simp at hx;rcases hx with rfl | rfl;exact h;exact h'⟩
def sQ (i:Nat) (go:BB) (k:Int) (x:BB) (nx:Nat):List D:=[.str (cK i),.str (cK (i+1)),.sl .own 4 [[.str go,.int .i64 k,.str x,.int .i64 (nx:Int)]]]
section
variable {m q:Nat} {b:Bool} {s:List BB} {x4:aq ah} {z:aq nq} {go dK:BB}
def T4 (hm:10<=m) (hs:nP s) {M i:Nat} (hM:M<=4) (back:Bool) (hi:i+1 < M) {P:RR} (hP:P.length<=20) {d:aq ah} (hd:cu d) :
  ∃(kd:Int) (x:BB) (d':aq ah),(kd,x)∈jb/\cu d'/\∀k,uR (T m) q x4 (k+1) (M:Int) b (ie s) d z (nm,(.own,eV M),(.own,P),()) go dK back (i:Int) =
   uR (T m) q x4 k (M:Int) b (ie s) d' z (nm,(.own,eV M),(.own,P++[sQ i go kd x (P.length+1)]),()) go dK back ((i+1:Nat):Int):=by
 obtain⟨kd,x,d',hc,dD,e⟩:=Pv m (by omega) b hs hd;refine⟨kd,x,d',hc,dD,λk=>?_⟩;have hw:=wI i;have nO:ak (ae P.length+1)=((P.length+1:Nat):Int):=iP (by rw[cm];omega) (by omega);rw[aaV,hw];refine dz (aM (by omega)) (mG (mG (rz (v:=(cK i,())) rfl (pU (by omega)) (by simp) rfl ?_)));dsimp only;refine rz (v:=(cK (i+1),())) rfl (pU (by omega)) (by simp) rfl ?_;dsimp only;refine pZ e rfl (eI (room (by omega) (by omega)) ?_);dsimp only;rw[nO];rfl
def T3 (hm:10<=m) {M i:Nat} (hM:M<=4) (h2:2<=M) (hi:i+1=M) {P:RR} (hP:P.length<=20) {d:aq ah} (hd:cu d) :
  ∃(kd:Int) (d':aq ah),(kd,[])∈jb/\cu d'/\∀k,uR (T m) q x4 (k+1) (M:Int) b (ie s) d z (nm,(.own,eV M),(.own,P),()) go dK true (i:Int) =
   AI (T m) q x4 q (M:Int) d' z (nm,(.own,eV M),(.own,P++[[.str (cK (M - 1)),.str (cK 0),.sl .own 4 [[.str [111,107],.int .i64 kd,.str [],.int .i64 0]]]]),()) dK:=by
 obtain⟨kd,d',hc,dD,e⟩:=Jt m (by omega) hd;refine⟨kd,d',hc,dD,λk=>?_⟩;have hw:=wI i;have nO:ak ((M:Int) - 1)=((M - 1:Nat):Int):=iP;rw[aaV,hw,nO];refine bj (bm (by omega)) (dz rfl (mG (mG (rz (v:=(cK (M - 1),())) rfl (pU (by omega)) (by simp) rfl ?_))));dsimp only;have hr:=pU (many:=M) (k:=0) (by omega);refine eI (aM (by rw[tJ];show 0 < M;omega)) (qo (b:=[.str (cK 0)]) (by simpa using hr) (eI rfl ?_));show aA _ _ _=_;refine pZ e rfl (eI (room (by omega) (by omega)) ?_);rfl
abbrev u5 (nm:BB) (M:Nat) (ps:List PT):V:=.agg [sC nm,lC (.im false) 1 (eV M),lC (.im false) 3 (ps.map cP)]
abbrev pp (i j:Nat) (ms:List AM):PT:=⟨cK i,cK j,false,ms⟩
abbrev zQ:PT:=⟨[],[],true,[]⟩
abbrev qH (go dK:BB) (k:Int):List D:=[.str (cK 0),.str (cK 1),.sl .own 4 [[.str go,.int .i64 k,.str [],.int .i64 1],[.str dK,.int .i64 0,.str [],.int .i64 0]]]
def t2b (k1 k2:Int) (d:aq ah):AI (T m) (q+20) x4 (q+20) 2 d z (nm,(.own,eV 2),(.own,[qH go dK k1]++[[.str (cK (2 - 1)),.str (cK 0),.sl .own 4 [[.str [111,107],.int .i64 k2,.str [],.int .i64 0]]]]),()) dK =
 some (u5 nm 2 [pp 0 1 [⟨go,k1,[],1⟩,⟨dK,0,[],2⟩],pp 1 0 [⟨[111,107],k2,[],0⟩],zQ],[bx ah d]):=by kernel_rfl
def t2n (k1:Int) (d:aq ah):uR (T m) (q+20) x4 (q+20) 2 b (ie s) d z (nm,(.own,eV 2),(.own,[qH go dK k1]),()) go dK false 1 =
 some (u5 nm 2 [pp 0 1 [⟨go,k1,[],0⟩,⟨dK,0,[],1⟩],zQ],[bx ah d]):=by kernel_rfl
def t3b (k1 k2 k3:Int) (x:BB) (d:aq ah):AI (T m) (q+20) x4 (q+20) 3 d z (nm,(.own,eV 3),(.own,([qH go dK k1]++[sQ 1 go k2 x 2])++[[.str (cK (3 - 1)),.str (cK 0),.sl .own 4 [[.str [111,107],.int .i64 k3,.str [],.int .i64 0]]]]),()) dK =
 some (u5 nm 3 [pp 0 1 [⟨go,k1,[],1⟩,⟨dK,0,[],3⟩],pp 1 2 [⟨go,k2,x,2⟩],pp 2 0 [⟨[111,107],k3,[],0⟩],pp 1 2 [⟨dK,0,[],4⟩],zQ],[bx ah d]):=by kernel_rfl
def t3n (k1 k2:Int) (x:BB) (d:aq ah):uR (T m) (q+20) x4 (q+19) 3 b (ie s) d z (nm,(.own,eV 3),(.own,[qH go dK k1]++[sQ 1 go k2 x 2]),()) go dK false 2 =
 some (u5 nm 3 [pp 0 1 [⟨go,k1,[],1⟩,⟨dK,0,[],2⟩],pp 1 2 [⟨go,k2,x,0⟩],pp 1 2 [⟨dK,0,[],3⟩],zQ],[bx ah d]):=by kernel_rfl
def t4b (k1 k2 k3 k4:Int) (x y:BB) (d:aq ah):AI (T m) (q+20) x4 (q+20) 4 d z (nm,(.own,eV 4),(.own,(([qH go dK k1]++[sQ 1 go k2 x 2])++[sQ 2 go k3 y 3])++[[.str (cK (4 - 1)),.str (cK 0),.sl .own 4 [[.str [111,107],.int .i64 k4,.str [],.int .i64 0]]]]),()) dK =
 some (u5 nm 4 [pp 0 1 [⟨go,k1,[],1⟩,⟨dK,0,[],4⟩],pp 1 2 [⟨go,k2,x,2⟩],pp 2 3 [⟨go,k3,y,3⟩],pp 3 0 [⟨[111,107],k4,[],0⟩],pp 1 2 [⟨dK,0,[],5⟩],pp 2 3 [⟨dK,0,[],6⟩],zQ],[bx ah d]):=by kernel_rfl
def t4n (k1 k2 k3:Int) (x y:BB) (d:aq ah):uR (T m) (q+20) x4 (q+18) 4 b (ie s) d z (nm,(.own,eV 4),(.own,([qH go dK k1]++[sQ 1 go k2 x 2])++[sQ 2 go k3 y 3]),()) go dK false 3 =
 some (u5 nm 4 [pp 0 1 [⟨go,k1,[],1⟩,⟨dK,0,[],3⟩],pp 1 2 [⟨go,k2,x,2⟩],pp 2 3 [⟨go,k3,y,0⟩],pp 1 2 [⟨dK,0,[],4⟩],pp 2 3 [⟨dK,0,[],5⟩],zQ],[bx ah d]):=by kernel_rfl
end
def aq4 (m q:Nat) (hm:10<=m) (b:Bool) {s:List BB} (hs:nP s) {M:Nat} (h2:2<=M) (h4:M<=4) (x4:aq ah) (z:aq nq) {go dK:BB} (hg:go∈AQ) (hq:dK∈AQ) (aD:go≠dK) (back:Bool) {k1:Int} (hk:(k1,[])∈jb) {d:aq ah} (hd:cu d) :
  ∃(ps:List PT) (d':aq ah),oP M ps/\cu d'/\uR (T m) (q+20) x4 (q+20) (M:Int) b (ie s) d z (nm,(.own,eV M),(.own,[qH go dK k1]),()) go dK back 1=some (u5 nm M ps,[bx ah d']):=by
 have h0:((0:Int),([]:BB))∈jb:=by decide
 have bh:[111,107]∈AQ:=by decide
 have yK:∀{P i j a c x} {k:Int},i < M->j < M->i≠j->(k,x)∈jb->a < P->c < P->D2 P M (pp i j [⟨go,k,x,a⟩,⟨dK,0,[],c⟩]):=λh1 h2 h3 h4 h5 h6=>.inr ⟨_,_,h1,h2,h3,rfl,rfl,apY ⟨hg,h4,h5⟩ ⟨hq,h0,h6⟩ aD⟩
 have lV:∀{P i j a l x} {k:Int},i < M->j < M->i≠j->l∈AQ->(k,x)∈jb->a < P->D2 P M (pp i j [⟨l,k,x,a⟩]):=λh1 h2 h3 h4 h5 h6=>.inr ⟨_,_,h1,h2,h3,rfl,rfl,apX ⟨h4,h5,h6⟩⟩
 have D4:∀{P},D2 P M zQ:=.inl ⟨rfl,rfl,rfl⟩;match M,h2,h4 with
 | 2,_,_=>
  cases back with
  | true=>
   obtain⟨k2,d',hc,dD,e⟩:=T3 (q:=q+20) (b:=b) (s:=s) (x4:=x4) (z:=z) (go:=go) (dK:=dK) hm (M:=2) (i:=1) (by omega) (by omega) rfl (P:=[qH go dK k1]) (by simp) hd;refine⟨_,d',⟨by omega,by omega,?_,?_,?_⟩,dD,(e (q+19)).trans (t2b k1 k2 d')⟩
   ·simp
   ·simp
   ·intro p hp;simp only[ik,uc,ub] at hp;rcases hp with rfl | rfl | rfl
    ·exact yK (by omega) (by omega) (by omega) hk (by simp) (by simp)
    ·exact lV (by omega) (by omega) (by omega) bh hc (by simp)
    ·exact D4
  | false=>
   refine⟨_,d,⟨by omega,by omega,?_,?_,?_⟩,hd,t2n k1 d⟩
   ·simp
   ·simp
   ·intro p hp;simp only[ik,uc,ub] at hp;rcases hp with rfl | rfl
    ·exact yK (by omega) (by omega) (by omega) hk (by simp) (by simp)
    ·exact D4
 | 3,_,_=>
  obtain⟨k2,x,d1,dM,cA,e1⟩:=T4 (q:=q+20) (b:=b) (s:=s) (x4:=x4) (z:=z) (go:=go) (dK:=dK) hm hs (M:=3) (i:=1) (by omega) back (by omega) (P:=[qH go dK k1]) (by simp) hd;cases back with
  | true=>
   obtain⟨k3,d',hc,dD,e⟩:=T3 (q:=q+20) (b:=b) (s:=s) (x4:=x4) (z:=z) (go:=go) (dK:=dK) hm (M:=3) (i:=2) (by omega) (by omega) rfl (P:=[qH go dK k1]++[sQ 1 go k2 x 2]) (by simp) cA;refine⟨_,d',⟨by omega,by omega,?_,?_,?_⟩,dD,(e1 (q+19)).trans ((e (q+18)).trans (t3b k1 k2 k3 x d'))⟩
   ·simp
   ·simp
   ·intro p hp;simp only[ik,uc,ub] at hp;rcases hp with rfl | rfl | rfl | rfl | rfl
    ·exact yK (by omega) (by omega) (by omega) hk (by simp) (by simp)
    ·exact lV (by omega) (by omega) (by omega) hg dM (by simp)
    ·exact lV (by omega) (by omega) (by omega) bh hc (by simp)
    ·exact lV (by omega) (by omega) (by omega) hq h0 (by simp)
    ·exact D4
  | false=>
   refine⟨_,d1,⟨by omega,by omega,?_,?_,?_⟩,cA,(e1 (q+19)).trans (t3n k1 k2 x d1)⟩
   ·simp
   ·simp
   ·intro p hp;simp only[ik,uc,ub] at hp;rcases hp with rfl | rfl | rfl | rfl
    ·exact yK (by omega) (by omega) (by omega) hk (by simp) (by simp)
    ·exact lV (by omega) (by omega) (by omega) hg dM (by simp)
    ·exact lV (by omega) (by omega) (by omega) hq h0 (by simp)
    ·exact D4
 | 4,_,_=>
  obtain⟨k2,x,d1,dM,cA,e1⟩:=T4 (q:=q+20) (b:=b) (s:=s) (x4:=x4) (z:=z) (go:=go) (dK:=dK) hm hs (M:=4) (i:=1) (by omega) back (by omega) (P:=[qH go dK k1]) (by simp) hd;obtain⟨k3,y,d2,gG,fh,e2⟩:=T4 (q:=q+20) (b:=b) (s:=s) (x4:=x4) (z:=z) (go:=go) (dK:=dK) hm hs (M:=4) (i:=2) (by omega) back (by omega) (P:=[qH go dK k1]++[sQ 1 go k2 x 2]) (by simp) cA;cases back with
  | true=>
   obtain⟨k4,d',hc,dD,e⟩:=T3 (q:=q+20) (b:=b) (s:=s) (x4:=x4) (z:=z) (go:=go) (dK:=dK) hm (M:=4) (i:=3) (by omega) (by omega) rfl (P:=([qH go dK k1]++[sQ 1 go k2 x 2])++[sQ 2 go k3 y 3]) (by simp) fh;refine⟨_,d',⟨by omega,by omega,?_,?_,?_⟩,dD,(e1 (q+19)).trans ((e2 (q+18)).trans ((e (q+17)).trans (t4b k1 k2 k3 k4 x y d')))⟩
   ·simp
   ·simp
   ·intro p hp;simp only[ik,uc,ub] at hp;rcases hp with rfl | rfl | rfl | rfl | rfl | rfl | rfl
    ·exact yK (by omega) (by omega) (by omega) hk (by simp) (by simp)
    ·exact lV (by omega) (by omega) (by omega) hg dM (by simp)
    ·exact lV (by omega) (by omega) (by omega) hg gG (by simp)
    ·exact lV (by omega) (by omega) (by omega) bh hc (by simp)
    ·exact lV (by omega) (by omega) (by omega) hq h0 (by simp)
    ·exact lV (by omega) (by omega) (by omega) hq h0 (by simp)
    ·exact D4
  | false=>
   refine⟨_,d2,⟨by omega,by omega,?_,?_,?_⟩,fh,(e1 (q+19)).trans ((e2 (q+18)).trans (t4n k1 k2 k3 x y d2))⟩
   ·simp
   ·simp
   ·intro p hp;simp only[ik,uc,ub] at hp;rcases hp with rfl | rfl | rfl | rfl | rfl | rfl
    ·exact yK (by omega) (by omega) (by omega) hk (by simp) (by simp)
    ·exact lV (by omega) (by omega) (by omega) hg dM (by simp)
    ·exact lV (by omega) (by omega) (by omega) hg gG (by simp)
    ·exact lV (by omega) (by omega) (by omega) hq h0 (by simp)
    ·exact lV (by omega) (by omega) (by omega) hq h0 (by simp)
    ·exact D4
def adI (n:Nat) (hn:40<=n) (b:Bool) {s:List BB} (hs:nP s) {M:Nat} (h2:2<=M) (h4:M<=4) {d:aq ah} (hd:cu d) :
  ∃(ps:List PT) (d':aq ah),oP M ps/\cu d'/\T n 188 [pE,.one (sC nm),.one (iC M),.one (lC (.im b) 1 (ie s))] [bx ah d]=some (u5 nm M ps,[bx ah d']):=by
 obtain⟨q,rfl⟩:∃q,n=q+20+1:=⟨n - 21,by omega⟩
 obtain⟨j1,d1,yg,cA,e1⟩:=pick (q+20) (by omega) (k:=2) (by omega) (by omega) hd;obtain⟨j2,d2,lx,fh,e2⟩:=pick (q+20) (by omega) (k:=2) (by omega) (by omega) cA;obtain⟨j3,d3,hj3,sX,e3⟩:=pick (q+20) (by omega) (k:=2) (by omega) (by omega) fh;obtain⟨k1,d4,hk,Ak,e4⟩:=Jt (q+20) (by omega) sX;have aD:mA j1≠mA (2+j2):=λh=>by have:=abl h;omega
 obtain⟨ps,d',pD,zY,g3⟩:=aq4 (nm:=nm) (q+20) q (by omega) b hs h2 h4 d ([],((.im true),[]),((.im true),[]),()) (Mn j1) (Mn (2+j2)) aD ((j3:Int)==1) hk Ak;refine⟨ps,d',pD,zY,ah5 _ ?_⟩;refine Ey (adG (q+20) (by omega)) (qo (I3 _) ?_);dsimp only;rw[aeP h2 h4];have hl:=tJ M;refine eI (aM (by simp;omega)) (eI ?_ (bj ?_ ?_))
 ·rw[hl];match M,h2,h4 with
  | 2,_,_=>rfl
  | 3,_,_=>rfl
  | 4,_,_=>rfl
 ·match M,h2,h4 with
  | 2,_,_=>rfl
  | 3,_,_=>rfl
  | 4,_,_=>rfl
 ·rw[amJ];refine Ey (Mp (q+20) (by omega)) (l8 e1 ?_);dsimp only;have l1:=Mm j1;rw[IF (by omega)] at l1;refine fZ (v:=(mA j1,())) rfl l1 (by simp) rfl ?_;dsimp only;refine Ey (Mp (q+20) (by omega)) (l8 e2 ?_);dsimp only;have l2:=Mm (2+j2);rw[IF (by omega)] at l2;refine fZ (i:=2+j2) (v:=(mA (2+j2),())) (iP) l2 (by simp) rfl ?_;dsimp only;refine l8 e3 (pZ e4 rfl (xe (mG ?_)));dsimp only;have uK:=pU (many:=M) (k:=0) (by omega);have gS:=pU (many:=M) (k:=1) (by omega);refine eI (aM (by rw[tJ];show 0 < M;omega)) (qo (b:=[.str (cK 0)]) (by simpa using uK) (eI rfl ?_));show gd _ _=_;refine eI (aM (by rw[tJ];show 1 < M;omega)) (qo (b:=[.str (cK 1)]) (by simpa using gS) (eI rfl ?_));show gd _ _=_;refine eI rfl ?_;rw[amI];exact g3
def aqy (n:Nat) (hn:50<=n) (b:Bool) {s:List BB} (hs:nP s) {d:aq ah} (hd:cu d) :
  ∃(M:Nat) (ps:List PT) (d':aq ah),oP M ps/\cu d'/\T n 137 [pE,.one (sC nm),.one (lC (.im b) 1 (ie s))] [bx ah d]=some (u5 nm M ps,[bx ah d']):=by
 obtain⟨m,rfl⟩:=bl 1 n;obtain⟨j,d1,hj,cA,e1⟩:=pick m (by omega) (k:=4) (by omega) (by omega) hd;have uF:∀ps:List PT,∀M:Nat,qh (.agg dS) (u5 nm M ps)=some (nm,(false,eV M),(false,ps.map cP),()):=λps M=>rfl
 match j,hj with
 | 0,_=>
  obtain⟨ps,d',h1,h2,e⟩:=OJ (nm:=nm) m (by omega) b hs 2 (by omega) (by omega) cA;exact⟨2,ps,d',h1,h2,Jx _ (l8 e1 (dz rfl (pZ e (uF ps 2) rfl)))⟩
 | 1,_=>
  obtain⟨i,d2,hi,fh,e2⟩:=pick m (by omega) (k:=3) (by omega) (by omega) cA;obtain⟨ps,d',h1,h2,e⟩:=adI (nm:=nm) m (by omega) b hs (M:=i+2) (by omega) (by omega) fh;refine⟨i+2,ps,d',h1,h2,Jx _ (l8 e1 (bj rfl (dz rfl (l8 e2 ?_))))⟩;dsimp only;rw[show ak (2+(i:Int))=((i+2:Nat):Int) from iP];exact pZ e (uF ps (i+2)) rfl
 | 2,_=>
  obtain⟨ps,d',h1,h2,e⟩:=OJ (nm:=nm) m (by omega) b hs 3 (by omega) (by omega) cA;exact⟨3,ps,d',h1,h2,Jx _ (l8 e1 (bj rfl (bj rfl (dz rfl (pZ e (uF ps 3) rfl)))))⟩
 | 3,_=>
  obtain⟨ps,d',h1,h2,e⟩:=adI (nm:=nm) m (by omega) b hs (M:=3) (by omega) (by omega) cA;exact⟨3,ps,d',h1,h2,Jx _ (l8 e1 (bj rfl (bj rfl (bj rfl (pZ e (uF ps 3) rfl)))))⟩
structure TN where
 kd:Int
 pr:BB
 t:Bool
 ms:List AM
def cN (p:TN):List D:=[.int .i64 p.kd,.str p.pr,.sl (.im p.t) 4 (p.ms.map cM)]
def Ub:∀a:TN,0+3<=(cN a).length/\dI ji (List.take 3 (List.drop 0 (cN a)))=some ((λt=>(t.kd,t.pr,(t.t,t.ms.map cM),())) a):=(λa=>⟨by simp[cN],rfl⟩)
def acM:∀l:List TN,aK (l.map cN)=l.map cN
 | []=>rfl
 | a::t=>by
  simp only[e9,aK,acM t];rfl
end
end Go.Proofs.YtfmpdgeiodnnfaaGreatDoor.QQ
namespace Go.Proofs.YtfmpdgeiodnnfaaGreatDoor
section
open Go Go.ax QQ
structure TM where
 kd:Int
 nm:BB
 n:Int
 tx:BB
 l:Int
 r:Int
def bH (t:TM):List D:=[.int .i64 t.kd,.str t.nm,.int .i64 t.n,.str t.tx,.int .i64 t.l,.int .i64 t.r]
structure SR where
 kd:Int
 nm:BB
 pr:BB
 lb:BB
 pc:BB
 tm:Int
 gt:Tag
 ag:RR
 ct:Tag
 cs:RR
 wt:Tag
 ws:RR
 nx:Int
def cS (s:SR):List D:=[.int .i64 s.kd,.str s.nm,.str s.pr,.str s.lb,.str s.pc,.int .i64 s.tm,.sl s.gt 1 s.ag,.sl s.ct 3 s.cs,.sl s.wt 3 s.ws,.int .i64 s.nx]
structure PR where
 nm:BB
 rt:Bool
 rs:List BB
 pt:Bool
 iw:RR
def cJ (p:PR):List D:=[.str p.nm,.sl (.im p.rt) 1 (p.rs.map λs=>[.str s]),.sl (.im p.pt) 3 p.iw]
def T':∀a:PR,1+1<=(cJ a).length/\dI [DS.im 1] (List.take 1 (List.drop 1 (cJ a)))=some ((λp=>((p.rt,p.rs.map λs=>[.str s]),())) a):=(λa=>⟨by simp[cJ],rfl⟩)
def A9:∀a:PR,0+3<=(cJ a).length/\dI dS (List.take 3 (List.drop 0 (cJ a)))=some ((λp=>(p.nm,(p.rt,p.rs.map λs=>[.str s]),(p.pt,p.iw),())) a):=(λa=>⟨by simp[cJ],rfl⟩)
structure LR where
 nm:BB
 tb:Bool
 ts:List TN
def lN (l:LR):List D:=[.str l.nm,.sl (.im l.tb) 3 (l.ts.map cN)]
def ado:∀a:LR,1<=(lN a).length/\dI [DS.str] (List.take 1 (List.drop 0 (lN a)))=some ((λl=>(l.nm,())) a):=(λa=>⟨by simp[lN],rfl⟩)
def Ua:∀a:LR,1+1<=(lN a).length/\dI [DS.im 3] (List.take 1 (List.drop 1 (lN a)))=some ((λl=>((l.tb,l.ts.map cN),())) a):=(λa=>⟨by simp[lN],rfl⟩)
structure WK where
 pb:Bool
 ps:List PR
 nm:BB
 pm:Tag×RR
 self:BB
 yb:Bool
 ty:List LR
 role:Int
def Wr (k:WK) (tt:Tag) (tm:RR) (st:Tag) (ss:RR) (nz rm:Int):aq aN:=((),(k.pb,k.ps.map cJ),k.nm,k.pm,(tt,tm),(st,ss),k.self,(k.yb,k.ty.map lN),k.role,nz,rm,())
def W (k:WK) (tt:Tag) (tm:List TM) (st:Tag) (ss:List SR) (nz rm:Int):aq aN:=((),(k.pb,k.ps.map cJ),k.nm,k.pm,(tt,tm.map bH),(st,ss.map cS),k.self,(k.yb,k.ty.map lN),k.role,nz,rm,())
def Wt (k:WK) (tm:List TM) (st:Tag) (ss:List SR) (nz rm:Int):aq UC:=((),(k.pb,k.ps.map cJ),k.nm,k.pm,tm.map bH,(st,ss.map cS),k.self,(k.yb,k.ty.map lN),k.role,nz,rm,())
def Ws (k:WK) (tt:Tag) (tm:List TM) (ss:List SR) (nz rm:Int):aq UD:=((),(k.pb,k.ps.map cJ),k.nm,k.pm,(tt,tm.map bH),ss.map cS,k.self,(k.yb,k.ty.map lN),k.role,nz,rm,())
def ll {X:Type} (t:Tag) (l:List X):Prop:=t = .own\/(t = .im true/\l=[])
def bI {rs:RS} {o x:OR} {K:rs.T->OR} {Q:V->List (List C)->Prop} (f:∀r,x=some r->o=some r) (h:Wp x (J rs K Q)):Wp (aA rs o K) Q:=by
 obtain⟨v,bs,e,q⟩:=h;rw[f _ e];exact q
def aH {rs:RS} {v:V} {bs:List (List C)} {x:rs.T} {K:rs.T->OR} {Q:V->List (List C)->Prop} (hd:jH rs (v,bs)=some x) (h:Wp (K x) Q):Wp (aA rs (some (v,bs)) K) Q:=by
 have e:aA rs (some (v,bs)) K=K x:=by simp only[aA,hd]
 rw[e];exact h
def jk {rs:RS} {o:OR} {v:V} {bs:List (List C)} {x:rs.T} {K:rs.T->OR} {Q:V->List (List C)->Prop} (ho:o=some (v,bs)) (hd:jH rs (v,bs)=some x) (h:Wp (K x) Q):Wp (aA rs o K) Q:=by
 rw[ho];exact aH hd h
section
variable {m:Nat} {Q:V->List (List C)->Prop} {k:WK} {tt st:Tag} {tm:List TM} {ss:List SR} {nz rm:Int} {d:aq ah}
def gW {n k:Nat} (h:n<=100000000000) (hk:k<=1000):(n==n&&true&&decide ((n+1) * k<=140737488355328))=true:=by
 have:(n+1) * k<=(100000000000+1) * 1000:=V6 (by omega) hk;simp;omega
def jV (hm:4<=m) {n:Nat} (h1:1<=n) (h2:n<=1000000) (hd:cu d) {K:adP.T->OR} (h:∀(j:Nat) d',j < n->cu d'->Wp (K ((j:Int),d',())) Q):Wp (eb (T m) (n:Int) d K) Q:=by
 obtain⟨j,d',hj,dD,e⟩:=pick m (by omega) h1 h2 hd;exact jk e (by simp only[jH,qh,vM,Ju];rfl) (h j d' hj dD)
def mJ (hm:1<=m) {z:Int} {K:HZ.T->OR} (h:Wp (K ((z,[],[],[],[],-1,(true,[]),(true,[]),(true,[]),-1,()),())) Q):Wp (kz (T m) z K) Q:=by
 obtain⟨m,rfl⟩:=bT hm;exact bI ahS (aB (aH rfl h))
def Bs (hm:4<=m) (hN:tm.length<=100000000) (ho:ll tt tm) {a:Int} {b:BB} {c:Int} {e:BB} {f g:Int} {K:pV.T->OR}
  (h:Wp (K ((tm.length:Int),Wt k (tm++[⟨a,b,c,e,f,g⟩]) st ss nz rm,d,())) Q):Wp (xC (T m) a b c e f g (W k tt tm st ss nz rm) d K) Q:=by
 obtain⟨m,rfl⟩:=bl 2 m;have hw:ak (ae ((tm++[TM.mk a b c e f g]).map bH).length - 1)=(tm.length:Int):=iP (by rw[cm];simp) (by omega);refine bI ah' ?_;have fin:Wp (SC (T (m+1)) (m+1) (W k tt tm st ss nz rm) d (m+1) (W k .own (tm++[⟨a,b,c,e,f,g⟩]) st ss nz rm) d (a,b,c,e,f,g,())) (J pV K Q):=by
  rw[amR];refine ij (aB ?_);refine aH (x:=((tm.length:Int),Wt k (tm++[⟨a,b,c,e,f,g⟩]) st ss nz rm,d,())) ?_ h;show jH pV (.one (iC (ak (ae ((tm++[TM.mk a b c e f g]).map bH).length - 1))),_)=_;rw[hw];rfl
 rcases ho with rfl | ⟨rfl,rfl⟩
 ·refine ij (az (gW (by simp[W];omega) (by omega)) ?_);have e1:(W k .own (tm++[⟨a,b,c,e,f,g⟩]) st ss nz rm)=((),(W k .own tm st ss nz rm).2.1,(W k .own tm st ss nz rm).2.2.1,(W k .own tm st ss nz rm).2.2.2.1,(.own,(tm.map bH)++[[.int .i64 a,.str b,.int .i64 c,.str e,.int .i64 f,.int .i64 g]]),(W k .own tm st ss nz rm).2.2.2.2.2):=by simp[W,bH]
  rw[e1] at fin;exact fin
 ·exact eL (az rfl fin)
def sh (hm:5<=m) (hN:tm.length<=100000000) (ho:ll tt tm) {b:BB} {K:pV.T->OR}
  (h:Wp (K ((tm.length:Int),Wt k (tm++[⟨0,b,0,[],-1,-1⟩]) st ss nz rm,d,())) Q):Wp (c87 (T m) b (W k tt tm st ss nz rm) d K) Q:=by
 obtain⟨m,rfl⟩:=bT hm;refine bI ah1 (Bs (by omega) hN ho (aB ?_));exact aH (x:=((tm.length:Int),Wt k (tm++[⟨0,b,0,[],-1,-1⟩]) st ss nz rm,d,())) rfl h
def w_num (hm:5<=m) (hN:tm.length<=100000000) (ho:ll tt tm) {b:Int} {K:pV.T->OR}
  (h:Wp (K ((tm.length:Int),Wt k (tm++[⟨1,[],b,[],-1,-1⟩]) st ss nz rm,d,())) Q):Wp (py (T m) b (W k tt tm st ss nz rm) d K) Q:=by
 obtain⟨m,rfl⟩:=bT hm;refine bI ah2 (Bs (by omega) hN ho (aB ?_));exact aH (x:=((tm.length:Int),Wt k (tm++[⟨1,[],b,[],-1,-1⟩]) st ss nz rm,d,())) rfl h
def zg (hm:5<=m) (hN:tm.length<=100000000) (ho:ll tt tm) {a b c:Int} {K:pV.T->OR}
  (h:Wp (K ((tm.length:Int),Wt k (tm++[⟨a,[],0,[],b,c⟩]) st ss nz rm,d,())) Q):Wp (sI (T m) a b c (W k tt tm st ss nz rm) d K) Q:=by
 obtain⟨m,rfl⟩:=bT hm;refine bI ahU (Bs (by omega) hN ho (aB ?_));exact aH (x:=((tm.length:Int),Wt k (tm++[⟨a,[],0,[],b,c⟩]) st ss nz rm,d,())) rfl h
def j7 {r:RR} (h:r≠[]):(r.length==r.length && !r.isEmpty)=true:=by
 cases r with
 | nil=>exact absurd rfl h
 | cons a t=>simp
def Vo {s:SR} {F:aq aN->OR} {t0:Tag} {K:tK.T->OR} (hN:ss.length<=100000000) (ho:ll t0 ss) (gS : -100000000<=rm) (kQ:rm<=100000000)
  (hF:F (W k tt tm .own (ss++[s]) nz rm)=some (.one (iC (ak (ae ((ss++[s]).map cS).length - 1))),[bx aN (W k tt tm .own (ss++[s]) nz (ak (rm - 1))),bx ah d]))
  (h:Wp (K ((ss.length:Int),Ws k tt tm (ss++[s]) nz (rm - 1),d,())) Q) :
  Wp (gd (zM t0 (λb0=>b0&&true&&true) (rO (ss.map cS).length 160)) (F ((),(k.pb,k.ps.map cJ),k.nm,k.pm,(tt,tm.map bH),(.own,zM t0 (λ_=>[cS s]) (ss.map cS++[cS s])),k.self,(k.yb,k.ty.map lN),k.role,nz,rm,()))) (J tK K Q):=by
 have fin:Wp (F (W k tt tm .own (ss++[s]) nz rm)) (J tK K Q):=by
  rw[hF,show ak (ae ((ss++[s]).map cS).length - 1)=(ss.length:Int) from iP (by rw[cm];simp) (by omega),show ak (rm - 1)=rm - 1 from EF (by omega) (by omega)];exact aB (aH (x:=((ss.length:Int),Ws k tt tm (ss++[s]) nz (rm - 1),d,())) rfl h)
 rcases ho with rfl | ⟨rfl,rfl⟩
 ·refine az (gW (by simp;omega) (by omega)) ?_;have e1:(W k tt tm .own (ss++[s]) nz rm)=((),(k.pb,k.ps.map cJ),k.nm,k.pm,(tt,tm.map bH),(.own,ss.map cS++[cS s]),k.self,(k.yb,k.ty.map lN),k.role,nz,rm,()):=by simp[W]
  rw[e1] at fin;exact fin
 ·exact az rfl fin
variable {x0:Int} {x1 x2 x3 x4:BB} {x5:Int} {x6:Bool} {x7:RR} {x8:Bool} {x9:RR} {bA:Bool} {bG:RR} {aX:Int} {K:tK.T->OR}
def Br (hm:4<=m) (hN:ss.length<=100000000) (ho:ll st ss) (gS : -100000000<=rm) (kQ:rm<=100000000)
  (h:Wp (K ((ss.length:Int),Ws k tt tm (ss++[⟨x0,x1,x2,x3,x4,x5,.im x6,x7,.im x8,x9,.im bA,bG,-1⟩]) nz (rm - 1),d,())) Q):Wp (qV (T m) x0 x1 x2 x3 x4 x5 x6 x7 x8 x9 bA bG aX (W k tt tm st ss nz rm) d K) Q:=by
 obtain⟨m,rfl⟩:=bl 2 m;refine bI ah8 ?_;have go:∀t,ll t ss->_:=λt ht=>Vo (t0:=t) (F:=λw=>Sz (T (m+1)) (m+1) (W k tt tm st ss nz rm) d (m+1) w d (x0,x1,x2,x3,x4,x5,(.im x6,x7),(.im x8,x9),(.im bA,bG),-1,())) hN ht gS kQ (amO.trans rfl) h
 rcases ho with rfl | ⟨rfl,rfl⟩
 ·exact ij (go _ (.inl rfl))
 ·exact eL (go _ (.inr ⟨rfl,rfl⟩))
def Vn (hm:4<=m) (hN:ss.length<=100000000) (ho:ll st ss) (gS : -100000000<=rm) (kQ:rm<=100000000) (h7:x7≠[])
  (h:Wp (K ((ss.length:Int),Ws k tt tm (ss++[⟨x0,x1,x2,x3,x4,x5,.own,x7,.im x8,x9,.im bA,bG,-1⟩]) nz (rm - 1),d,())) Q):Wp (Jf (T m) x0 x1 x2 x3 x4 x5 x7 x8 x9 bA bG aX (W k tt tm st ss nz rm) d K) Q:=by
 obtain⟨m,rfl⟩:=bl 2 m;refine bI ah7 ?_;have go:∀t,ll t ss->_:=λt ht=>Vo (t0:=t) (F:=λw=>Sy (T (m+1)) (m+1) (W k tt tm st ss nz rm) d (m+1) w d (x0,x1,x2,x3,x4,x5,(),(.im x8,x9),(.im bA,bG),-1,())) hN ht gS kQ (amM.trans rfl) h
 rcases ho with rfl | ⟨rfl,rfl⟩
 ·exact ij (cF (j7 h7) (go _ (.inl rfl)))
 ·exact eL (cF (j7 h7) (go _ (.inr ⟨rfl,rfl⟩)))
def atb (hm:4<=m) (hN:ss.length<=100000000) (ho:ll st ss) (gS : -100000000<=rm) (kQ:rm<=100000000) (h9:x9≠[])
  (h:Wp (K ((ss.length:Int),Ws k tt tm (ss++[⟨x0,x1,x2,x3,x4,x5,.im x6,x7,.own,x9,.im bA,bG,-1⟩]) nz (rm - 1),d,())) Q):Wp (XI (T m) x0 x1 x2 x3 x4 x5 x6 x7 x9 bA bG aX (W k tt tm st ss nz rm) d K) Q:=by
 obtain⟨m,rfl⟩:=bl 2 m;refine bI ah9 ?_;have go:∀t,ll t ss->_:=λt ht=>Vo (t0:=t) (F:=λw=>SA (T (m+1)) (m+1) (W k tt tm st ss nz rm) d (m+1) w d (x0,x1,x2,x3,x4,x5,(.im x6,x7),(),(.im bA,bG),-1,())) hN ht gS kQ (amP.trans rfl) h
 rcases ho with rfl | ⟨rfl,rfl⟩
 ·exact ij (cF (j7 h9) (go _ (.inl rfl)))
 ·exact eL (cF (j7 h9) (go _ (.inr ⟨rfl,rfl⟩)))
def arh {l:List SR} {a b:SR} {c:Nat} {z:D} (h:(cS a).set c z=cS b):bS ((l++[a]).map cS) (0+l.length) c z=(l++[b]).map cS:=by
 have:((l++[a]).map cS).getD (0+l.length) []=cS a:=by simp
 unfold bS;rw[this,h];simp
def SR.at (s:SR) (n:Nat):SR:=⟨s.kd,s.nm,s.pr,s.lb,s.pc,s.tm,s.gt,s.ag,s.ct,s.cs,s.wt,s.ws,n⟩
def Vq {s:SR} (h:Wp (K ((ss.length:Int),Ws k tt tm (ss++[s.at (ss.length+1)]) nz rm,d,())) Q) :
  Wp (ay (bL (ss.length:Int)) λo1=>gd (decide (o1 < ((ss++[s]).map cS).length)) (ay (((ss++[s]).map cS)[0+o1]?) λo2=>gd (decide (10<=o2.length)&&true) (bR bO (List.take 1 (List.drop 9 o2)) λv3=>some (.one (iC (ss.length:Int)),[bx aN (Wr k tt (tm.map bH) .own (bS ((ss++[s]).map cS) (0+o1) 9 (.int .i64 (ae ((ss++[s]).map cS).length))) nz rm),bx ah d])))) (J tK K Q):=by
 refine iA rfl (az (aM (by simp)) (eg (b:=cS s) (by simp) (az rfl (gi (v:=(s.nx,())) rfl ?_))));rw[arh (b:=s.at (ss.length+1)) (by rw[cm,cX,fH];rfl)];exact aB (aH (x:=((ss.length:Int),Ws k tt tm (ss++[s.at (ss.length+1)]) nz rm,d,())) rfl h)
def Bt (hm:5<=m) (hN:ss.length<=100000000) (ho:ll st ss) (gS : -100000000<=rm) (kQ:rm<=100000000)
  (h:Wp (K ((ss.length:Int),Ws k tt tm (ss++[⟨x0,x1,x2,x3,x4,x5,.im x6,x7,.im x8,x9,.im bA,bG,(ss.length+1:Nat)⟩]) nz (rm - 1),d,())) Q):Wp (uu (T m) x0 x1 x2 x3 x4 x5 x6 x7 x8 x9 bA bG aX (W k tt tm st ss nz rm) d K) Q:=by
 obtain⟨m,rfl⟩:=bT hm;exact bI aib (Br (by omega) hN ho gS kQ (Vq (s:=⟨x0,x1,x2,x3,x4,x5,.im x6,x7,.im x8,x9,.im bA,bG,-1⟩) h))
def afD (hm:5<=m) (hN:ss.length<=100000000) (ho:ll st ss) (gS : -100000000<=rm) (kQ:rm<=100000000) (h7:x7≠[])
  (h:Wp (K ((ss.length:Int),Ws k tt tm (ss++[⟨x0,x1,x2,x3,x4,x5,.own,x7,.im x8,x9,.im bA,bG,(ss.length+1:Nat)⟩]) nz (rm - 1),d,())) Q):Wp (Pn (T m) x0 x1 x2 x3 x4 x5 x7 x8 x9 bA bG aX (W k tt tm st ss nz rm) d K) Q:=by
 obtain⟨m,rfl⟩:=bT hm;exact bI aia (cF (j7 h7) (Vn (by omega) hN ho gS kQ h7 (Vq (s:=⟨x0,x1,x2,x3,x4,x5,.own,x7,.im x8,x9,.im bA,bG,-1⟩) h)))
def atd (hm:5<=m) (hN:ss.length<=100000000) (ho:ll st ss) (gS : -100000000<=rm) (kQ:rm<=100000000) (h9:x9≠[])
  (h:Wp (K ((ss.length:Int),Ws k tt tm (ss++[⟨x0,x1,x2,x3,x4,x5,.im x6,x7,.own,x9,.im bA,bG,(ss.length+1:Nat)⟩]) nz (rm - 1),d,())) Q):Wp (XJ (T m) x0 x1 x2 x3 x4 x5 x6 x7 x9 bA bG aX (W k tt tm st ss nz rm) d K) Q:=by
 obtain⟨m,rfl⟩:=bT hm;exact bI aic (cF (j7 h9) (atb (by omega) hN ho gS kQ h9 (Vq (s:=⟨x0,x1,x2,x3,x4,x5,.im x6,x7,.own,x9,.im bA,bG,-1⟩) h)))
end
end
end Go.Proofs.YtfmpdgeiodnnfaaGreatDoor
namespace Go.Proofs.YtfmpdgeiodnnfaaGreatDoor.QQ
section
open Go Go.ax
def Hu:List BB:=[[97],[98],[99],[100],[101],[112],[122,122],[119],[120],[121],[122],[111,107],[109,97,105,110],[113]]
def pz (k:Int) (x:BB):BB:=if k=0 then[117,110,105,116] else if k=1 then[105,110,116] else if k=2 then[98,111,111,108] else if k=3 then[116,101,120,116] else if k=4 then[108,105,115,116] else[99,104,97,110,32]++x
def acF (n:Nat) (hn:80<=n) {k:Int} {x:BB} (hx:(k,x)∈jb):T n 17 [.agg [iC k,sC x]] []=some (.one (sC (pz k x)),[]):=by
 simp only[jb,ik,uc,ub,iB] at hx;rcases hx with⟨rfl,rfl⟩ | ⟨rfl,rfl⟩ | ⟨rfl,rfl⟩ | ⟨rfl,rfl⟩ | ⟨rfl,rfl⟩ | ⟨rfl,rfl⟩ | ⟨rfl,rfl⟩ | ⟨rfl,rfl⟩ | ⟨rfl,rfl⟩ | ⟨rfl,rfl⟩ | ⟨rfl,rfl⟩ | ⟨rfl,rfl⟩ | ⟨rfl,rfl⟩;all_goals (obtain⟨m,rfl⟩:=bl 80 n;kernel_rfl)
end
section
open Go Go.ax
def Ih (a b:BB):D.c8 (a++b)=D.c8 a++D.c8 b:=by unfold D.c8;exact eF
def nw (a:BB):(D.c8 a).length=a.length:=by unfold D.c8;exact cX _
def Ew:∀b:BB,kG (D.c8 b)=some b
 | []=>rfl
 | c::r=>by
  show (kG (D.c8 r)).map (UInt8.ofNat ((c.toNat:Int).toNat) :: ·)=some (c::r);rw[Ew r];show some (UInt8.ofNat c.toNat::r)=_;rw[UInt8.ofNat_toNat]
def U8 (x:RR) (b:Bool):fS 1 x b=true:=by
 show (ni x||true)=true;exact Bool.or_true _
abbrev B0:aq bp:=((),(.im true,[]),())
abbrev BW (t:BB):aq bp:=((),(.own,D.c8 t),())
section
variable {m:Nat} {s t:BB} {z:OR}
def agS {x:aq bp} (hm:1<=m) {K:Unit×aq bp×Unit->OR} (h:K ((),x,())=z):c91 (T m) x K=z:=by
 obtain⟨m,rfl⟩:=bl 1 m;obtain⟨⟨⟩,⟨tg,r⟩,⟨⟩⟩:=x;have e:T (m+1) 91 [pE] [bx bp ((),(tg,r),())]=some (.ao [],[bx bp ((),(tg,r),())]):=by kernel_rfl
 exact U4 e h
def asi {o:OR} {i:Int} {ds:List DS} {p:aq ds} {K:(Int×Bool×Unit)×aq ds×Unit->OR} {y:OR} (h:o=some (.ao [.one (iC i),.one .fQ],[bx ds p])) (h2:K ((i,true,()),p,())=y):aA (.ao [.one (.int .i64),.fk] [ds]) o K=y:=by
 subst h;simp only[aA,jH,Ju];exact h2
def PG (hm:2<=m) (hl:t.length+s.length<=100000000000000) {K:(Int×Bool×Unit)×aq bp×Unit->OR} (h:∀n:Int,K ((n,true,()),BW (t++s),())=z):dw (T m) s (BW t) K=z:=by
 obtain⟨m,rfl⟩:=bl 1 m;refine asi (i:=ae s.length) (Yu _ (agS (by omega) (mG (eI ?_ ?_)))) (h _)
 ·dsimp only[zM];rw[U8,nw,nw];simp;omega
 ·exact fW (λx:RR=>(some (V.ao [.one (iC (ae s.length)),.one .fQ],[bx bp ((),(Tag.own,x),())]):OR)) (Ih t s).symm
def ag8 (hm:2<=m) (ht:t≠[]) (hl:t.length<=100000000000000) {K:BB×aq y9×Unit->OR} (h:K (t,((),(),()),())=z):c37 (T m) (BW t) K=z:=by
 obtain⟨m,rfl⟩:=bl 1 m;have h0:((D.c8 t).length==0)=false:=by
  rw[nw];cases t with
  | nil=>exact absurd rfl ht
  | cons=>rfl
 refine asl (Yt _ (mG (eI ?_ (eI ?_ (qo (Ew t) rfl))))) h
 ·dsimp only;rw[h0];rfl
 ·dsimp only;rw[h0,nw];simp;omega
def agZ (hm:1<=m) {n:Nat} (h1:1<=n) (h2:n<=100000000000000) {K:Unit×aq bp×Unit->OR} (h:K ((),BW [],())=z):Xm (T m) (n:Int) B0 K=z:=by
 obtain⟨m,rfl⟩:=bl 1 m;have hd:decide ((1:Int)<=(n:Int)/\(n:Int)<=140737488355328)=true:=aM ⟨by omega,by omega⟩
 have e : T (m + 1) 112 [pE, .one (iC (n : Int))] [bx bp B0] = (match Nat.beq 89 89, decide ((1 : Int) <= (n : Int) /\ (n : Int) <= 140737488355328) with
     | true, true => some (.ao [], [bx bp (BW [])])
     | _, _ => none) := by kernel_rfl
 rw[hd] at e;exact U4 e h
def mz (l:List BB):BB:=l.flatMap λy=>[44,32]++y
def lS:List BB->BB
 | []=>[]
 | x::t=>x++mz t
abbrev strs (l:List BB):RR:=l.map λs=>[.str s]
def aeN {l:List BB} {i:Nat} (h:i < l.length):(strs l)[i]? = some [.str l[i]]:=by
 rw[bQ,gE h];rfl
def aaF:∀l:List BB,(∀y∈l,y.length<=10000000)->(mz l).length<=10000002 * l.length
 | [],_=>by simp[mz]
 | y::l,h=>by
  have h1:=h y (jD ..);have h2:=aaF l λy hy=>h y (jC _ hy)
  simp only[mz,Oh,fH,jl,mL] at h2 ⊢;omega
def alT {l:List BB} {i:Nat} (h:i < l.length):mz (l.take (i+1))=mz (l.take i)++[44,32]++l[i]:=by
 unfold mz;rw[sq,gE h,List.flatMap_append,show List.flatMap (λy=>[44,32]++y) (some l[i]).toList=[44,32]++l[i] by simp,<-fI]
def aaG (q:Nat) (hm:2<=m) (b:Bool) (l:List BB) (hl:l.length<=200) (hy:∀y∈l,y.length<=10000000) (t:BB) (ht:t++mz l≠[]) (s8:t.length<=10000000):∀(k i:Nat),l.length - i < k->i<=l.length->
  yB (T m) (q+1) k [44,32] (BW (t++mz (l.take i))) b (strs l) (ae l.length) (i:Int)=some (.one (sC (t++mz l)),[])
 | 0,i,h,_=>by omega
 | k+1,i,h,hi=>by
  have h8:=aaF (l.take i) λy gN=>hy y (EN gN)
  rw[ud] at h8;have h9:min i l.length<=200:=by omega
  rw[aoZ];by_cases af:i < l.length
  ·have ih:=aaG q hm b l hl hy t ht s8 k (i+1) (by omega) (by omega);have hyi:=hy l[i] (bU af);refine dz (aM (by rw[cm];omega)) (fZ (v:=(l[i],())) rfl (aeN af) (by simp) rfl ?_);dsimp only;refine PG hm (by simp;omega) λ_=>dz rfl (PG hm (by simp;omega) λ_=>dz rfl ?_)
   dsimp only;rw[wI i];rw[alT af] at ih;rw[fI,fI,<-fI (mz (l.take i))];exact ih
  ·obtain rfl:i=l.length:=by omega
   rw[ES] at h8 ⊢;refine bj (bm (by rw[cm];omega)) (ag8 hm ht (by simp;omega) rfl)
def aeO (q:Nat) (hm:2<=m) (b:Bool) (x:BB) (l:List BB) (hx:x++mz l≠[]) (hl:l.length<=200) (hy:∀y∈x::l,y.length<=10000000) (hq:l.length<=q):∀(k i s:Nat),l.length+1 - i < k->i<=l.length+1->1<=s->s<=1000+10000000 * i->
  Mj (T m) (q+1) k b (strs (x::l)) [44,32] (s:Int) b (strs (x::l)) (ae (strs (x::l)).length) (i:Int)=some (.one (sC (lS (x::l))),[])
 | 0,i,s,h,_,_,_=>by omega
 | k+1,i,s,h,hi,h1,hs=>by
  rw[ao0];have hlen:ae (strs (x::l)).length=((l.length+1:Nat):Int):=by simp[ae]
  by_cases af:i < (x::l).length
  ·have hyi:=hy (x::l)[i] (bU af);have Ap:i < l.length+1:=by simpa using af
   have hw:ak (9223372036854775807 - (s:Int))=9223372036854775807 - (s:Int):=EF (by omega) (by omega);have ih:=aeO q hm b x l hx hl hy hq k (i+1) (s+(x::l)[i].length) (by omega) (by omega) (by omega) (by omega);refine dz (by rw[hlen];exact aM (by omega)) (fZ (v:=((x::l)[i],())) rfl (aeN af) (by simp) rfl ?_);dsimp only;refine bj (by rw[hw];exact bm (by rw[cm];omega)) ?_;rw[wI i,show ak ((s:Int)+ae (x::l)[i].length)=((s+(x::l)[i].length:Nat):Int) from iP (by rw[cm];omega) (by omega)];exact ih
  ·have wq:=hy x (jD ..);have Ap:¬ i < l.length+1:=by simpa using af
   refine bj (by rw[hlen];exact bm (by omega)) (agZ (by omega) h1 (by omega) (qo (b:=[.str x]) rfl (eI rfl ?_)));show dw (T m) x (BW []) _=_;refine PG hm (by simp;omega) λ_=>dz rfl (eI ?_ ?_)
   ·simp
   ·have hd:List.take ((strs (x::l)).length - Int.toNat 1) (List.drop 1 (strs (x::l)))=strs l:=by
     show List.take ((strs l).length+1 - 1) (strs l)=_;rw[Nat.add_sub_cancel,ES]
    rw[hd,show ae (strs l).length=ae l.length by rw[cX]];have:=aaG q hm b l hl (λy h=>hy y (jC _ h)) x hx (by omega) (q+1) 0 (by omega) (by omega);rw[show mz (l.take 0)=[] from rfl,oa] at this;exact this
def X2 {l:List BB} (hm:l.length+10<=m) (b:Bool) (hl:l.length<=200) (hy:∀y∈l,y.length<=10000000) {K:BB×Unit->OR} (h:K (lS l,())=z):od (T m) b (strs l) [44,32] K=z:=by
 obtain⟨m,rfl⟩:=bl 2 m;cases l with
 | nil=>exact Bl (Ys _ (dz rfl rfl)) h
 | cons x l=>
  refine Bl (Ys _ ?_) h;cases l with
  | nil=>exact bj rfl (dz rfl (qo (b:=[.str x]) rfl (eI rfl (by rw[show lS [x]=x from oa x];rfl))))
  | cons y l=>
   have hlen:ae (strs (x::y::l)).length=((l.length+2:Nat):Int):=by simp[ae];omega
   have nK:l.length+2<=200:=by simpa using hl
   have Z':l.length+2+10<=m+2:=by simpa using hm
   have hw:ak (ae (strs (x::y::l)).length - 1)=((l.length+1:Nat):Int):=by rw[hlen];exact iP
   refine bj (by rw[hlen];exact lI.2 (by omega)) (bj (by rw[hlen];exact lI.2 (by omega)) (dz rfl (eI ?_ (bj ?_ ?_))))
   ·rw[hw];simp;omega
   ·rw[hw];have h3:2 < Int.tdiv 9223372036854775807 ((l.length+1:Nat):Int):=by
     rw[Oo (by omega)];have:(3:Int)<=9223372036854775807 / ((l.length+1:Nat):Int):=Int.le_ediv_of_mul_le (by omega) (by omega);omega
    have h4:Int.tdiv 9223372036854775807 ((l.length+1:Nat):Int)<=9223372036854775807:=by
     rw[Oo (by omega)];exact Int.ediv_le_self _ (by omega)
    rw[EF (by omega) h4];exact bm (by show ¬ ((2:Int)>=_);omega)
   ·rw[ao1,ao2,hw]
    rw[show ak (0 + ak (ae (List.length ([44, 32] : BB)) * ((l.length + 1 : Nat) : Int))) = ((2 * (l.length + 1) : Nat) : Int) by
      rw[show ae (List.length ([44, 32] : BB)) = 2 from rfl, show ak ((2 : Int) * ((l.length + 1 : Nat) : Int)) = ((2 * (l.length + 1) : Nat) : Int) from iP]
      exact iP]
    exact aeO m (by omega) b x (y::l) (by simp[mz]) (by simp;omega) hy (by simp;omega) (m+1) 0 (2 * (l.length+1)) (by simp;omega) (by omega) (by omega) (by omega)
end
end
end Go.Proofs.YtfmpdgeiodnnfaaGreatDoor.QQ
namespace Go.Proofs.YtfmpdgeiodnnfaaGreatDoor
section
open Go Go.ax QQ
def yU (z:Int):Bool:=decide (-9223372036854775808<=z)&&decide (z<=9223372036854775807)
def aqY:yU 0=true:=by decide
def aqZ {z:Int} (h : -1000000<=z) (h':z<=1000000):yU z=true:=by simp[yU];omega
def aq0 (z:Int):yU (ak z)=true:=by
 show (decide (_<=IntKind.wrap .i64 z)&&decide (IntKind.wrap .i64 z<=_))=true;simp only[IntKind.wrap,IntKind.signed,IntKind.bits];simp;omega
def yC (t:TM):Prop:=(t.kd=0\/t.kd=1\/t.kd=3\/t.kd=4)/\t.l = -1/\t.r = -1/\yU t.n=true
def MK (tm:List TM) (i:Nat) (t:TM):Prop:=yC t\/(t.n=0/\(t.kd=6\/t.kd=7\/t.kd=9\/t.kd=12\/t.kd=18\/t.kd=19)/\∃a b x y,t.l=((a:Nat):Int)/\t.r=((b:Nat):Int)/\a≠b/\a < i/\b < i/\tm[a]? = some x/\tm[b]? = some y/\yC x/\yC y/\(x.kd≠0\/y.kd≠0))
def iW (tm:List TM):Prop:=∀i t,tm[i]? = some t->MK tm i t
def iZ {z:Int} (h:yU z=true:=by first | exact aqY | exact aq0 _ | (refine aqZ ?_ ?_<;>(dsimp only;omega))):yU z=true:=h
def Qw {X:Type} {l:List X} {a:Nat} {x y:X} (h:l[a]? = some x):(l++[y])[a]? = some x:=by
 rw[nZ];exact h;exact(cd.1 h).1
def acd {tm:List TM} {i:Nat} {t u:TM} (h:MK tm i t):MK (tm++[u]) i t:=by
 rcases h with h | ⟨hz,hk,a,b,x,y,h1,h2,h3,h4,h5,h6,h7,h8⟩
 ·exact .inl h
 ·exact .inr ⟨hz,hk,a,b,x,y,h1,h2,h3,h4,h5,Qw h6,Qw h7,h8⟩
def ace {tm:List TM} {u:TM} (h:iW tm) (hu:MK tm tm.length u):iW (tm++[u]):=by
 intro i t ht;by_cases hi:i < tm.length
 ·rw[nZ hi] at ht;exact acd (h i t ht)
 ·rw[qP (by omega)] at ht;have:i - tm.length=0:=by
   by_cases h0:i - tm.length=0
   ·exact h0
   ·rw[zo (by simp;omega)] at ht;cases ht
  rw[this] at ht;simp at ht;subst ht;rw[show i=tm.length by omega];exact acd hu
def qC {tm:List TM} {u:TM} (h:iW tm) (hu:yC u):iW (tm++[u]):=ace h (.inl hu)
def yN {tm:List TM} {x y:TM} {c:Int} (h:iW tm) (hx:yC x) (hy:yC y) (hk:c=6\/c=7\/c=9\/c=12\/c=18\/c=19) (hv:x.kd≠0\/y.kd≠0):iW (tm++[x]++[y]++[⟨c,[],0,[],(tm.length:Int),((tm++[x]).length:Int)⟩]):=by
 refine ace (qC (qC h hx) hy) (.inr ⟨rfl,hk,tm.length,(tm++[x]).length,x,y,rfl,rfl,by simp,by simp,by simp,?_,?_,hx,hy,hv⟩)
 ·exact Qw (by simp)
 ·simp
section
variable {m:Nat} {Q:V->List (List C)->Prop} {k:WK} {tt st:Tag} {tm:List TM} {ss:List SR} {nz rm:Int} {d:aq ah}
def EW (r:RR) (b:BB):Prop:=r.length=b.length/\kG r=some b/\aK r=r/\sN r=true
def EW.cons {r:RR} {b:BB} (h:EW r b) (z:Int):∃c,EW ([[D.int .u8 0]].set 0 [D.int .u8 z]++r) (c::b):=by
 obtain⟨h1,h2,h3,h4⟩:=h;refine⟨UInt8.ofNat z.toNat,?_,?_,?_,?_⟩
 ·simp[h1]
 ·show (kG r).map _=_;rw[h2];rfl
 ·show HL _::aK r=_;rw[h3];rfl
 ·show sN ([D.int .u8 z]::r)=true;simp only[sN,vw] at h4 ⊢;rw[h4];simp[D.flat]
def Yl (q:Nat) (hq:30<=q) (z:Nat):∀(c j u:Nat) (r:RR) (b:BB),c < j->c<=18->u < 10 ^ c->EW r b->b≠[]->b.length+c<=100->
  (∀s:BB,1<=s.length->s.length<=b.length+c->Q (.one (sC s)) [])->Wp (K5 (T q) q j (z:Int) (u:Int) r) Q
 | c,0,u,r,b,h0,_,_,_,_,_,_=>by omega
 | c,j+1,u,r,b,h0,Aa,hu,hb,aD,hl,h=>by
  obtain⟨q,rfl⟩:=bl 1 q;have hz:decide ((z:Int) < 0)=false:=bm (by omega);refine aG (amV) ?_;have Rw:1<=b.length:=by cases b with | nil=>exact absurd rfl aD | cons=>simp
  by_cases h1:u=0
  ·subst h1;refine eW rfl (eW (lI.2 (by rw[cm,hb.1];omega)) ?_);refine aG amZ ?_;refine eW hz (az (by simp) ?_);rw[dZ,hb.2.2.1];exact eg hb.2.1 (aB (h b Rw (by omega)))
  ·match c,hu with
   | 0,hu=>simp at hu;omega
   | c+1,hu=>
    have e1:(bY ((u:Int).tdiv 10))=((u / 10:Nat):Int):=by
     have h9:(10:Nat) ^ (c+1)<=10 ^ 18:=Nat.pow_le_pow_right (by omega) Aa;have h8:(u:Int).tdiv 10=((u / 10:Nat):Int):=by rw[Oo (by omega)];omega
     rw[h8];show IntKind.wrap .u64 _=_;simp only[IntKind.wrap,IntKind.signed,IntKind.bits];simp;omega
    refine cF (aM (by omega)) (aG amX (az (by rw[dZ,hb.2.2.2];simp) (az ?_ ?_)))
    ·rw[dZ,U8];simp;have:=hb.1;omega
    ·rw[dZ,e1];obtain⟨x,hx⟩:=hb.cons (w8 (bY (48+(u:Int).tmod 10)));exact Yl (q+1) hq z c j (u / 10) _ _ (by omega) (by omega) (by rw[Wd] at hu;omega) hx (by simp) (by simp;omega) (λs g1 g2=>h s g1 (by simp at g2;omega))
def agy:EW [] []:=⟨rfl,rfl,rfl,rfl⟩
def afi (hm:60<=m) {z:Nat} (hz:z < 10 ^ 17) {K:dE.T->OR} (h:∀s:BB,1<=s.length->s.length<=20->Wp (K (s,())) Q):Wp (I' (T m) (z:Int) K) Q:=by
 obtain⟨q,rfl⟩:=bl 2 m;have hu:bY (z:Int)=(z:Int):=by
  show IntKind.wrap .u64 _=_;simp only[IntKind.wrap,IntKind.signed,IntKind.bits];simp;omega
 refine bI aif (eW (bm (by omega)) ?_);rw[hu];refine aG am0 (aG amU ?_);have fin:Wp (K6 (T (q+1)) (q+1) q (q+1) (z:Int) (z:Int) true []) (J dE K Q):=by
  refine aG amW (az (by rw[U8];rfl) ?_);obtain⟨x,hx⟩:=agy.cons (w8 (bY (48+(z:Int).tmod 10)));have e1:bY ((z:Int).tdiv 10)=((z / 10:Nat):Int):=by
   have h8:(z:Int).tdiv 10=((z / 10:Nat):Int):=by rw[Oo (by omega)];omega
   rw[h8];show IntKind.wrap .u64 _=_;simp only[IntKind.wrap,IntKind.signed,IntKind.bits];simp;omega
  rw[e1];exact Yl (q+1) (by omega) z 17 q (z / 10) _ _ (by omega) (by omega) (by omega) hx (by simp) (by simp) (λs h1 h2=>aH (x:=(s,())) rfl (h s h1 (by simp at h2;omega)))
 by_cases h0:(z:Int) > 0
 ·exact cF (aM h0) fin
 ·exact eW (bm h0) (cF rfl fin)
def afn (hm:70<=m) {z:Nat} (hz:z<=100000000) {K:vb.T->OR} (h:∀s:BB,1<=s.length->s.length<=30->Wp (K (s,W k tt tm st ss ((z+1:Nat):Int) rm,d,())) Q):Wp (c146 (T m) (W k tt tm st ss (z:Int) rm) d K) Q:=by
 obtain⟨m,rfl⟩:=bT hm;have hw:=wI z;refine bI ahW ?_;show Wp (I' (T m) (ak ((z:Int)+1)) _) _;rw[hw];refine afi (by omega) (by omega) λs h1 h2=>bE (by show 1+s.length<=_;omega) (aB (aH (x:=([118]++s,W k tt tm st ss ((z+1:Nat):Int) rm,d,())) ?_ (h _ (by simp) (by simp;omega))))
 show jH vb (.one (sC ([118]++s)),[bx aN (W k tt tm st ss (ak ((z:Int)+1)) rm),bx ah d])=_;rw[hw];rfl
def asS (hm:10<=m) (hN:tm.length<=90000000) (ho:ll tt tm) (hT:iW tm) {K:pV.T->OR}
  (h:∀(z:Int) (dT:List TM),iW dT->dT.length=tm.length+3->Wp (K (z,Wt k dT st ss nz rm,d,())) Q):Wp (c196 (T m) (W k tt tm st ss nz rm) d K) Q:=by
 obtain⟨m,rfl⟩:=bT hm;refine bI ahZ (sh (by omega) (by omega) ho ?_);refine w_num (m:=m) (k:=k) (tm:=tm++[⟨0,[110],0,[],-1,-1⟩]) (by omega) (by simp;omega) (.inl rfl) ?_;refine zg (m:=m) (k:=k) (by omega) (by simp;omega) (.inl rfl) (aB ?_);exact aH rfl (h _ _ (yN hT ⟨.inl rfl,rfl,rfl,iZ⟩ ⟨.inr (.inl rfl),rfl,rfl,iZ⟩ (.inr (.inl rfl)) (.inr (by decide))) (by simp))
end
end
section
open Go Go.ax QQ
structure CR where
 ro:BB
 pc:BB
 gt:Bool
 ag:List Int
def eM (c:CR):List D:=[.str c.ro,.str c.pc,.sl (.im c.gt) 1 (c.ag.map bN)]
def cO (c:CR):List D:=[.str c.ro,.str c.pc,.sl .own 1 (c.ag.map bN)]
structure WR where
 lb:BB
 nm:BB
 nx:Int
def cW (w:WR):List D:=[.str w.lb,.str w.nm,.int .i64 w.nx]
def A8:∀a:WR,0+3<=(cW a).length/\dI vg (List.take 3 (List.drop 0 (cW a)))=some ((λw=>(w.lb,w.nm,w.nx,())) a):=(λa=>⟨by simp[cW],rfl⟩)
def iK (s:SR):Prop:=(∃l:List Int,s.ag=l.map bN/\l.length<=100)/\(∃l:List CR,s.cs=l.map cO/\l.length<=100/\∀c∈l,c.ag.length<=100)/\(∃l:List WR,s.ws=l.map cW/\l.length<=100)/\ll s.wt s.ws/\(s.ct = .own\/s.cs=[])
structure WH (N:Nat) (tt:Tag) (tm:List TM) (st:Tag) (ss:List SR) (nz rm:Int):Prop where
 ot:ll tt tm
 os:ll st ss
 nt:tm.length<=N
 ns:ss.length<=N
 kT:iW tm
 kS:∀s∈ss,iK s
 n0:∃z:Nat,nz=(z:Int)/\z<=N
 r1 : -(N:Int)<=rm
 r2:rm<=20
 te:tt = .own->tm≠[]
 se:st = .own->ss≠[]
section
variable {m N:Nat} {Q:V->List (List C)->Prop} {k:WK} {tt st:Tag} {tm:List TM} {ss:List SR} {nz rm:Int} {d:aq ah}
def WH.le {M:Nat} (h:WH N tt tm st ss nz rm) (hm:N<=M):WH M tt tm st ss nz rm:=by
 obtain⟨z,hz,Ku⟩:=h.n0;exact⟨h.ot,h.os,by have:=h.nt;omega,by have:=h.ns;omega,h.kT,h.kS,⟨z,hz,by omega⟩,by have:=h.r1;omega,h.r2,h.te,h.se⟩
def WH.tQ {dT:List TM} (h:WH N tt tm st ss nz rm) {M:Nat} (hm:N<=M) (h1:dT.length<=M) (h2:iW dT) (h3:dT≠[]:=by simp):WH M .own dT st ss nz rm:=by
 obtain⟨z,hz,Ku⟩:=h.n0;exact⟨.inl rfl,h.os,h1,by have:=h.ns;omega,h2,h.kS,⟨z,hz,by omega⟩,by have:=h.r1;omega,h.r2,λ_=>h3,h.se⟩
def WH.step {s:SR} (h:WH N tt tm st ss nz rm) (hs:iK s):WH (N+1) tt tm .own (ss++[s]) nz (rm - 1):=by
 obtain⟨z,hz,Ku⟩:=h.n0;refine⟨h.ot,.inl rfl,by have:=h.nt;omega,by have:=h.ns;simp;omega,h.kT,?_,⟨z,hz,by omega⟩,by have:=h.r1;omega,by have:=h.r2;omega,h.te,λ_=>by simp⟩;intro x hx;rw[dk] at hx;rcases hx with hx | hx
 ·exact h.kS x hx
 ·simp at hx;subst hx;exact hs
def WH.fresh {z:Nat} (h:WH N tt tm st ss (z:Int) rm):WH (N+1) tt tm st ss ((z+1:Nat):Int) rm:=by
 obtain⟨y,hy,yp⟩:=h.n0;exact⟨h.ot,h.os,by have:=h.nt;omega,by have:=h.ns;omega,h.kT,h.kS,⟨z+1,rfl,by omega⟩,by have:=h.r1;omega,h.r2,h.te,h.se⟩
def nQ {a:Int} {b c d e:BB} {f g:Int}:iK ⟨a,b,c,d,e,f,.im true,[],.im true,[],.im true,[],g⟩:=
 ⟨⟨[],rfl,by simp⟩,⟨[],rfl,by simp,by simp⟩,⟨[],rfl,by simp⟩,.inr ⟨rfl,rfl⟩,.inr rfl⟩
def asO (hm:100<=m) (hN:N<=80000000) (H:WH N tt tm st ss nz rm) (hd:cu d) {kd:Int} {K:pV.T->OR}
  (h:∀(z:Int) (dT:List TM) d',iW dT->dT.length<=tm.length+3->dT≠[]->cu d'->Wp (K (z,Wt k dT st ss nz rm,d',())) Q):Wp (Xy (T m) kd (W k tt tm st ss nz rm) d K) Q:=by
 obtain⟨m,rfl⟩:=bT hm;have hl:=H.nt;have hT:=H.kT;refine bI ahX (aj (λh1=>?_) (λh1=>aj (λh2=>?_) (λh2=>aj (λh3=>?_) (λh3=>?_))))
 ·refine jV (m:=m) (n:=5) (by omega) (by omega) (by omega) hd λj d1 hj cA=>?_
  refine aj (λh5=>?_) (λh5=>aj (λh6=>?_) (λh6=>?_))
  ·refine w_num (m:=m) (k:=k) (by omega) (by omega) H.ot ?_;refine sh (m:=m) (k:=k) (by omega) (by simp;omega) (.inl rfl) ?_;refine zg (m:=m) (k:=k) (by omega) (by simp;omega) (.inl rfl) (aB ?_);exact aH rfl (h _ _ _ (yN hT ⟨.inr (.inl rfl),rfl,rfl,iZ⟩ ⟨.inl rfl,rfl,rfl,iZ⟩ (.inr (.inr (.inl rfl))) (.inl (by decide))) (by simp) (by simp) cA)
  ·refine jV (m:=m) (n:=9) (by omega) (by omega) (by omega) cA λj2 d2 lx fh=>?_
   refine w_num (m:=m) (k:=k) (by omega) (by omega) H.ot (aB ?_);exact aH rfl (h _ _ _ (qC hT ⟨.inr (.inl rfl),rfl,rfl,iZ⟩) (by simp) (by simp) fh)
  ·refine sh (m:=m) (k:=k) (by omega) (by omega) H.ot ?_;refine jV (m:=m) (n:=5) (by omega) (by omega) (by omega) cA λj2 d2 lx fh=>?_
   refine w_num (m:=m) (k:=k) (by omega) (by simp;omega) (.inl rfl) ?_;refine zg (m:=m) (k:=k) (by omega) (by simp;omega) (.inl rfl) (aB ?_);exact aH rfl (h _ _ _ (yN hT ⟨.inl rfl,rfl,rfl,iZ⟩ ⟨.inr (.inl rfl),rfl,rfl,iZ⟩ (.inl rfl) (.inr (show (1:Int)≠0 by decide))) (by simp) (by simp) fh)
 ·refine sh (m:=m) (k:=k) (by omega) (by omega) H.ot ?_;refine jV (m:=m) (n:=4) (by omega) (by omega) (by omega) hd λj2 d2 lx fh=>?_
  refine w_num (m:=m) (k:=k) (by omega) (by simp;omega) (.inl rfl) ?_;refine zg (m:=m) (k:=k) (by omega) (by simp;omega) (.inl rfl) (aB ?_);exact aH rfl (h _ _ _ (yN hT ⟨.inl rfl,rfl,rfl,iZ⟩ ⟨.inr (.inl rfl),rfl,rfl,iZ⟩ (.inr (.inr (.inr (.inl rfl)))) (.inr (show (1:Int)≠0 by decide))) (by simp) (by simp) fh)
 ·refine jV (m:=m) (n:=9) (by omega) (by omega) (by omega) hd λj2 d2 lx fh=>?_
  refine afi (m:=m) (by omega) (by omega) λs g1 g2=>bE (by show 1+s.length<=_;omega) ?_
  refine Bs (m:=m) (k:=k) (by omega) (by omega) H.ot ?_;refine Bs (m:=m) (k:=k) (by omega) (by simp;omega) (.inl rfl) ?_;refine zg (m:=m) (k:=k) (by omega) (by simp;omega) (.inl rfl) (aB ?_);exact aH rfl (h _ _ _ (yN hT ⟨.inr (.inr (.inl rfl)),rfl,rfl,iZ⟩ ⟨.inr (.inr (.inl rfl)),rfl,rfl,iZ⟩ (.inr (.inr (.inr (.inr (.inr rfl))))) (.inr (by decide))) (by simp) (by simp) fh)
 ·refine Bs (m:=m) (k:=k) (by omega) (by omega) H.ot ?_;refine sh (m:=m) (k:=k) (by omega) (by simp;omega) (.inl rfl) ?_;refine zg (m:=m) (k:=k) (by omega) (by simp;omega) (.inl rfl) (aB ?_);exact aH rfl (h _ _ _ (yN hT ⟨.inr (.inr (.inr rfl)),rfl,rfl,iZ⟩ ⟨.inl rfl,rfl,rfl,iZ⟩ (.inr (.inr (.inr (.inr (.inl rfl))))) (.inl (by decide))) (by simp) (by simp) hd)
def NZ (hm:100<=m) (hN:N<=80000000) (H:WH N tt tm st ss nz rm) {over:Bool} {K:vd.T->OR}
  (h:∀fq gV,WH (N+2) tt tm .own fq nz gV->(∃x,fq=ss++x/\1<=x.length)->Wp (K ((ss.length:Int),W k tt tm .own fq nz gV,d,())) Q):Wp (c141 (T m) over (W k tt tm st ss nz rm) d K) Q:=by
 obtain⟨m,rfl⟩:=bl 2 m;have hl:=H.ns;have r1:=H.r1;have r2:=H.r2;have go:∀t,ll t ss->(t = .own->ss≠[])->Wp (bif (!over) then(kz (T (m+1)) 9 λv3=>(uu (T (m+1)) v3.1.1 [99] v3.1.2.2.1 v3.1.2.2.2.1 v3.1.2.2.2.2.1 v3.1.2.2.2.2.2.1 v3.1.2.2.2.2.2.2.1.1 v3.1.2.2.2.2.2.2.1.2 v3.1.2.2.2.2.2.2.2.1.1 v3.1.2.2.2.2.2.2.2.1.2 v3.1.2.2.2.2.2.2.2.2.1.1 v3.1.2.2.2.2.2.2.2.2.1.2 v3.1.2.2.2.2.2.2.2.2.2.1 (W k tt tm t ss nz rm) d λv4=>(Sv (T (m+1)) (m+1) (W k tt tm st ss nz rm) d (m+1) ((),v4.2.1.2.1,v4.2.1.2.2.1,v4.2.1.2.2.2.1,v4.2.1.2.2.2.2.1,(.own,v4.2.1.2.2.2.2.2.1),v4.2.1.2.2.2.2.2.2) v4.2.2.1 (ae (ss.map cS).length) (v3.1.1,[99],v3.1.2.2)))) else(Sw (T (m+1)) (m+1) (W k tt tm st ss nz rm) d (m+1) (W k tt tm t ss nz rm) d (ae (ss.map cS).length))) (J vd K Q):=by
  intro t ht mu;have hn:ae (ss.map cS).length=(ss.length:Int):=by rw[cm];simp
  rw[hn];have Ht:WH N tt tm t ss nz rm:=⟨H.ot,ht,H.nt,H.ns,H.kT,H.kS,H.n0,H.r1,H.r2,H.te,mu⟩
  refine aj (λh1=>?_) (λh1=>?_)
  ·refine mJ (m:=m+1) (by omega) ?_;refine Bt (m:=m+1) (k:=k) (by omega) (by omega) ht (by omega) (by omega) ?_;refine aG amy ?_;refine mJ (m:=m+1) (by omega) ?_;refine Br (m:=m+1) (k:=k) (by omega) (by simp;omega) (.inl rfl) (by omega) (by omega) (aB ?_);exact aH rfl (h _ _ ((Ht.step nQ).step nQ) ⟨_,by rw[fI],by simp⟩)
  ·refine aG amA ?_;refine mJ (m:=m+1) (by omega) ?_;refine Br (m:=m+1) (k:=k) (by omega) (by omega) ht (by omega) (by omega) (aB ?_);exact aH rfl (h _ _ ((Ht.step nQ).le (by omega)) ⟨_,rfl,by simp⟩)
 refine bI ahV ?_;have mu:=H.se;rcases H.os with rfl | ⟨rfl,rfl⟩
 ·exact ij (go .own (.inl rfl) mu)
 ·exact eL (go (.im true) (.inr ⟨rfl,rfl⟩) (by intro h;cases h))
end
end
section
open Go Go.ax QQ
def uY (p:PR):Prop:=p.nm.length<=20/\1<=p.rs.length/\p.rs.length<=10/\∀s∈p.rs,s.length<=20
def HE (P:Nat) (t:TN):Prop:=(t.kd=0/\t.ms=[])\/((t.kd=1\/t.kd=2)/\1<=t.ms.length/\t.ms.length<=10/\∀a∈t.ms,a.nx < P)
structure KH (k:WK):Prop where
 p0:k.ps≠[]
 p1:k.ps.length<=10
 p2:∀p∈k.ps,uY p
 ro:∃(r:Nat) (L:LR),k.role=(r:Int)/\k.ty[r]? = some L/\1<=L.ts.length/\L.ts.length<=100/\∀t∈L.ts,HE L.ts.length t
section
variable {m N:Nat} {Q:V->List (List C)->Prop} {k:WK} {tt st:Tag} {tm:List TM} {ss:List SR} {nz rm:Int} {d:aq ah}
def z7 {l:List BB} {i:Nat} (h:i < l.length):l[i]? = some l[i]:=gE h
def ae5 (q:Nat) (hq:40<=q) (hk:KH k) (a0:BB) (x2:aq ah) (x1:aq aN) (a3:aq dS)
  (h:∀p∈k.ps,∀r∈p.rs,Q (.ao [.agg [sC p.nm,lC (.im p.rt) 1 (p.rs.map λs=>[.str s]),lC (.im p.pt) 3 p.iw],.one (sC r)]) [bx aN (W k tt tm st ss nz rm),bx ah d]) :
  ∀(c i:Nat),k.ps.length - i < c->i<=k.ps.length->Wp (K3 (T q) q x1 x2 c a0 (W k tt tm st ss nz rm) d a3 (i:Int)) Q
 | 0,i,hc,_=>by omega
 | c+1,i,hc,hi=>by
  refine aG amS (aj (λh1=>?_) (λh1=>?_))
  ·have af:i < k.ps.length:=bW h1;have hp:=hk.p2 _ (bU af);have hg:k.ps[i]? = some k.ps[i]:=gE af;have inner:∀(e j:Nat),k.ps[i].rs.length - j < e->j<=k.ps[i].rs.length->Wp (K4 (T q) q x1 x2 c e a0 (W k tt tm st ss nz rm) d a3 (i:Int) (j:Int)) Q:=by
    intro e;induction e with
    | zero=>intro j he;omega
    | succ e ih=>
     intro j he hj;refine aG amT ?_;refine aS T' rfl hg (aj (λh2=>?_) (λh2=>?_))
     ·have lx:j < k.ps[i].rs.length:=bW h2;have hr:=z7 lx;have iu:=hp.2.2.2 _ (bU lx);have Gq:=hp.1;refine aS (enc:=cJ) (f:=λp=>(p.nm,())) (λa=>⟨by simp[cJ],rfl⟩) rfl hg (bE (by dsimp only;omega) ?_);refine aS T' rfl hg ?_;refine aS (enc:=λs:BB=>[D.str s]) (f:=λs=>(s,())) (λa=>⟨by simp,rfl⟩) rfl hr (bE (by dsimp only;simp only[fH,jl,mL];omega) ?_);refine aj (λh4=>?_) (λh4=>?_)
      ·refine aS A9 rfl hg ?_;refine aS T' rfl hg ?_;refine aS (enc:=λs:BB=>[D.str s]) (f:=λs=>(s,())) (λa=>⟨by simp,rfl⟩) rfl hr ?_;exact aB (h _ (bU af) _ (bU lx))
      ·rw[show ak ((j:Int)+1)=((j+1:Nat):Int) from iP (by omega) (by have:=hp.2.2.1;omega)];exact ih (j+1) (by omega) (by omega)
     ·rw[show ak ((i:Int)+1)=((i+1:Nat):Int) from iP (by omega) (by have:=hk.p1;omega)];exact ae5 q hq hk a0 x2 x1 a3 h c (i+1) (by omega) (by omega)
   exact inner q 0 (by have:=hp.2.2.1;omega) (by omega)
  ·have h0:0 < k.ps.length:=by have:=hk.p0;cases fj:k.ps with | nil=>exact absurd fj this | cons=>simp
   have hg:k.ps[0]? = some k.ps[0]:=gE h0;have hp:=hk.p2 _ (bU h0);have hr:=z7 (l:=k.ps[0].rs) (i:=0) (by have:=hp.2.1;omega);have vY:(k.ps.map cJ)[0]? = some (cJ k.ps[0]):=by rw[bQ,hg];rfl
   have eN:(k.ps[0].rs.map λs=>[D.str s])[0]? = some [D.str (k.ps[0].rs[0]'(by have:=hp.2.1;omega))]:=by rw[bQ,hr];rfl
   refine eg vY (az (aM (by simp[cJ])) (gi (v:=(k.ps[0].nm,(k.ps[0].rt,k.ps[0].rs.map λs=>[.str s]),(k.ps[0].pt,k.ps[0].iw),())) rfl ?_));refine aG (yR (r:=cJ k.ps[0]) (v:=((k.ps[0].rt,k.ps[0].rs.map λs=>[.str s]),())) vY (by simp[cJ]) rfl rfl) ?_;refine eg eN (az (aM (by simp)) (gi (v:=(_,())) rfl ?_));exact aB (h _ (bU h0) _ (bU _))
def afF (hm:50<=m) (hk:KH k) {a0:BB} {K:adR.T->OR}
  (h:∀p∈k.ps,∀r∈p.rs,Wp (K (((p.nm,(p.rt,p.rs.map λs=>[.str s]),(p.pt,p.iw),()),r,()),W k tt tm st ss nz rm,d,())) Q):Wp (c198 (T m) a0 (W k tt tm st ss nz rm) d K) Q:=by
 obtain⟨m,rfl⟩:=bT hm;refine bI aie ?_;exact ae5 m (by omega) hk a0 d (W k tt tm st ss nz rm) _ (λp hp r hr=>aH rfl (h p hp r hr)) m 0 (by have:=hk.p1;omega) (by omega)
def Iv (hm:1<=m) {a:BB} {b:Bool} {c:RR} {e:Bool} {f:RR} {r:BB} (ha:a.length<=20) (hr:r.length<=20) {K:dE.T->OR} (h:∀s:BB,s.length<=40->Wp (K (s,())) Q):Wp (B5 (T m) a b c e f r K) Q:=by
 obtain⟨m,rfl⟩:=bT hm;exact bI ahJ (bE (by omega) (aB (aH (x:=(a++r,())) rfl (h _ (by simp;omega)))))
end
end
section
open Go Go.ax QQ
def HJ:∀l:List Int,aK (l.map bN)=l.map bN
 | []=>rfl
 | a::t=>by simp only[e9,aK,HJ t];rfl
def acN:∀l:List CR,aK (l.map cO)=(l.map λc=>{ c with gt:=false }).map eM
 | []=>rfl
 | a::t=>by
  simp only[e9,aK,acN t];show [_,_,D.sl (.im false) 1 (aK (a.ag.map bN))]::_=_;rw[HJ];rfl
section
variable {m N:Nat} {Q:V->List (List C)->Prop} {k:WK} {tt st:Tag} {tm:List TM} {ss:List SR} {nz rm:Int} {d:aq ah}
def Oz (k:WK) (N:Nat) (ss:List SR) (K:vb.T->OR) (Q:V->List (List C)->Prop):Prop:=
 ∀(s:BB) lh dT fq oM gV d',WH N lh dT .own fq oM gV->(∃x,fq=ss++x)->cu d'->Wp (K (s,W k lh dT .own fq oM gV,d',())) Q
def TF (q:Nat) (hq:100<=q) (hN:N<=70000000) (p:PR) (hp:uY p) (a0:BB) (x2:aq ah) (x1:aq aN) {K:vb.T->OR} (x3 x4 x5 x6:BB) (kd Bj:Int) (h:Oz k (N+11) ss K Q) :
  ∀(c i:Nat) (tt:Tag) (tm:List TM) (cs:List CR) (d:aq ah),p.rs.length - i < c->i<=p.rs.length->WH (N+i) tt tm st ss nz rm->cu d->cs.length<=i->cs≠[]->(∀x∈cs,x.ag.length<=100)->
   Wp (G2 (T q) q x1 x2 c a0 (W k tt tm st ss nz rm) d (p.nm,(p.rt,p.rs.map λs=>[.str s]),(p.pt,p.iw),()) (kd,x3,x4,x5,x6,Bj,(true,[]),cs.map cO,(true,[]),-1,()) (i:Int)) (J vb K Q)
 | 0,i,tt,tm,cs,d,hc,_,_,_,_,_,_=>by omega
 | c+1,i,tt,tm,cs,d,hc,hi,H,hd,aU,uE,QW=>by
  have hp3:=hp.2.2.1;refine aG amH (aj (λh1=>?_) (λh1=>?_))
  ·have af:i < p.rs.length:=bW h1;have hr:=z7 af;have hw:=wI i;refine aS (enc:=λs:BB=>[D.str s]) (f:=λs=>(s,())) (λa=>⟨by simp,rfl⟩) rfl hr (aj (λh2=>?_) (λh2=>?_))
   ·refine aS (enc:=λs:BB=>[D.str s]) (f:=λs=>(s,())) (λa=>⟨by simp,rfl⟩) rfl hr ?_;refine aS (enc:=λs:BB=>[D.str s]) (f:=λs=>(s,())) (λa=>⟨by simp,rfl⟩) rfl hr ?_;refine Iv (m:=q) (by omega) hp.1 (hp.2.2.2 _ (bU af)) λs hs=>?_
    refine jV (m:=q) (n:=4) (by omega) (by omega) (by omega) hd λj d1 hj cA=>?_
    refine w_num (m:=q) (k:=k) (by omega) (by have:=H.nt;omega) H.ot (az (gW (by simp;omega) (by omega)) ?_);rw[hw];have H2:=H.tQ (M:=N+(i+1)) (dT:=tm++[⟨1,[],(j:Int),[],-1,-1⟩]) (by omega) (by have:=H.nt;simp;omega) (qC H.kT ⟨.inr (.inl rfl),rfl,rfl,iZ⟩);have:=TF q hq hN p hp a0 x2 x1 x3 x4 x5 x6 kd Bj h c (i+1) .own _ (cs++[⟨p.rs[i],s,false,[(tm.length:Int)]⟩]) d1 (by omega) (by omega) H2 cA (by simp;omega) (by simp)
     (by intro x hx;rw[dk] at hx;rcases hx with hx | hx;exact QW x hx;simp at hx;subst hx;simp)
    rw[eF] at this;exact this
   ·rw[hw];exact TF q hq hN p hp a0 x2 x1 x3 x4 x5 x6 kd Bj h c (i+1) tt tm cs d (by omega) (by omega) (H.le (by omega)) hd (by omega) uE QW
  ·refine cF (j7 (by simpa using uE)) (atd (m:=q) (k:=k) (by omega) (by have:=H.ns;omega) H.os (by have:=H.r1;omega) (by have:=H.r2;omega) (by simpa using uE) (aB ?_));exact aH rfl (h _ _ _ _ _ _ _ ((H.step ⟨⟨[],rfl,by simp⟩,⟨cs,rfl,by omega,QW⟩,⟨[],rfl,by simp⟩,.inr ⟨rfl,rfl⟩,.inl rfl⟩).le (by omega)) ⟨_,rfl⟩ hd)
def acq (q:Nat) (hq:100<=q) (hN:N<=70000000) (p:PR) (hp:uY p) (a0:BB) (x2:aq ah) (x1:aq aN) {K:vb.T->OR} (x3 x4 x5 x6:BB) (kd Bj:Int) (h:Oz k (N+11) ss K Q) :
  ∀(c i:Nat) (tt:Tag) (tm:List TM) (d:aq ah),c<=q->p.rs.length - i < c->i<=p.rs.length->WH (N+i) tt tm st ss nz rm->cu d->
   Wp (K0 (T q) q x1 x2 c a0 (W k tt tm st ss nz rm) d (p.nm,(p.rt,p.rs.map λs=>[.str s]),(p.pt,p.iw),()) (kd,x3,x4,x5,x6,Bj,(true,[]),(true,[]),(true,[]),-1,()) (i:Int)) (J vb K Q)
 | 0,i,tt,tm,d,_,hc,_,_,_=>by omega
 | c+1,i,tt,tm,d,FU,hc,hi,H,hd=>by
  have hp3:=hp.2.2.1;refine aG amG (aj (λh1=>?_) (λh1=>?_))
  ·have af:i < p.rs.length:=bW h1;have hr:=z7 af;have hw:=wI i;refine aS (enc:=λs:BB=>[D.str s]) (f:=λs=>(s,())) (λa=>⟨by simp,rfl⟩) rfl hr (aj (λh2=>?_) (λh2=>?_))
   ·refine aS (enc:=λs:BB=>[D.str s]) (f:=λs=>(s,())) (λa=>⟨by simp,rfl⟩) rfl hr ?_;refine aS (enc:=λs:BB=>[D.str s]) (f:=λs=>(s,())) (λa=>⟨by simp,rfl⟩) rfl hr ?_;refine Iv (m:=q) (by omega) hp.1 (hp.2.2.2 _ (bU af)) λs hs=>?_
    refine jV (m:=q) (n:=4) (by omega) (by omega) (by omega) hd λj d1 hj cA=>?_
    refine w_num (m:=q) (k:=k) (by omega) (by have:=H.nt;omega) H.ot (az rfl ?_);rw[hw];have H2:=H.tQ (M:=N+(i+1)) (dT:=tm++[⟨1,[],(j:Int),[],-1,-1⟩]) (by omega) (by have:=H.nt;simp;omega) (qC H.kT ⟨.inr (.inl rfl),rfl,rfl,iZ⟩);exact TF q hq hN p hp a0 x2 x1 x3 x4 x5 x6 kd Bj h c (i+1) .own _ [⟨p.rs[i],s,false,[(tm.length:Int)]⟩] d1 (by omega) (by omega) H2 cA (by simp) (by simp)
     (by intro x hx;simp at hx;subst hx;simp)
   ·rw[hw];exact acq q hq hN p hp a0 x2 x1 x3 x4 x5 x6 kd Bj h c (i+1) tt tm d (by omega) (by omega) (by omega) (H.le (by omega)) hd
  ·refine Bt (m:=q) (k:=k) (by omega) (by have:=H.ns;omega) H.os (by have:=H.r1;omega) (by have:=H.r2;omega) (aB ?_);exact aH rfl (h _ _ _ _ _ _ _ ((H.step nQ).le (by omega)) ⟨_,rfl⟩ hd)
def Vl (hm:110<=m) (hN:N<=60000000) (H:WH N tt tm st ss nz rm) (hd:cu d) {p:PR} (hp:uY p) {r:BB} {K:vb.T->OR} (h:Oz k (N+12) ss K Q) :
  Wp (c85 (T m) p.nm p.rt (p.rs.map λs=>[.str s]) p.pt p.iw r (W k tt tm st ss nz rm) d K) Q:=by
 obtain⟨m,rfl⟩:=bT hm;obtain⟨z,rfl,hz⟩:=H.n0;refine bI ah3 (mJ (m:=m) (by omega) (afn (m:=m) (by omega) (by omega) λs h1 h2=>?_));exact acq m (by omega) (N:=N+1) (by omega) p hp r d _ _ _ _ _ _ _ h m 0 tt tm d (by omega) (by have:=hp.2.2.1;omega) (by omega) H.fresh hd
def ate (hm:120<=m) (hN:N<=60000000) (H:WH N tt tm st ss nz rm) (hk:KH k) (hd:cu d) {a:BB} {c:Int} {e:BB} {K:lG.T->OR}
  (h:∀lh dT st' fq gV d',WH (N+3) lh dT st' fq nz gV->(∃x,fq=ss++x)->cu d'->Wp (K ((),W k lh dT st' fq nz gV,d',())) Q):Wp (Xx (T m) a c e (W k tt tm st ss nz rm) d K) Q:=by
 obtain⟨m,rfl⟩:=bT hm;have hl:=H.nt;have hs:=H.ns;have r1:=H.r1;have r2:=H.r2;refine bI aid (aj (λh1=>?_) (λh1=>?_))
 ·refine jV (m:=m) (n:=3) (by omega) (by omega) (by omega) hd λj d1 hj cA=>aj (λh2=>?_) (λh2=>?_)
  ·refine mJ (m:=m) (by omega) (sh (m:=m) (k:=k) (by omega) (by omega) H.ot ?_);have H2:=H.tQ (M:=N+1) (dT:=tm++[⟨0,a,0,[],-1,-1⟩]) (by omega) (by simp;omega) (qC H.kT ⟨.inl rfl,rfl,rfl,iZ⟩);refine Bt (m:=m) (k:=k) (by omega) (by omega) H.os (by omega) (by omega) (aB ?_);exact aH rfl (h _ _ _ _ _ _ ((H2.step nQ).le (by omega)) ⟨_,rfl⟩ cA)
  ·exact aB (aH rfl (h _ _ _ _ _ _ (H.le (by omega)) ⟨[],by simp⟩ cA))
 ·refine jV (m:=m) (n:=3) (by omega) (by omega) (by omega) hd λj d1 hj cA=>aj (λh2=>?_) (λh2=>?_)
  ·refine mJ (m:=m) (by omega) (Bt (m:=m) (k:=k) (by omega) (by omega) H.os (by omega) (by omega) (aB ?_));exact aH rfl (h _ _ _ _ _ _ ((H.step nQ).le (by omega)) ⟨_,rfl⟩ cA)
  ·refine afF (m:=m) (by omega) hk λp hp r hr=>mJ (m:=m) (by omega) ?_
   have lz:=hk.p2 p hp;refine Iv (m:=m) (by omega) lz.1 (lz.2.2.2 r hr) λs oD=>?_
   refine sh (m:=m) (k:=k) (by omega) (by omega) H.ot ?_;refine jV (m:=m) (n:=3) (by omega) (by omega) (by omega) cA λj2 d2 lx fh=>?_
   refine w_num (m:=m) (k:=k) (by omega) (by simp;omega) (.inl rfl) ?_;have H2:=H.tQ (M:=N+2) (dT:=tm++[⟨0,a,0,[],-1,-1⟩]++[⟨1,[],(j2:Int),[],-1,-1⟩]) (by omega) (by simp;omega) (qC (qC H.kT ⟨.inl rfl,rfl,rfl,iZ⟩) ⟨.inr (.inl rfl),rfl,rfl,iZ⟩);refine afD (m:=m) (k:=k) (by omega) (by omega) H.os (by omega) (by omega) (by simp) (aB ?_);exact aH rfl (h _ _ _ _ _ _ ((H2.step ⟨⟨[_,_],rfl,by simp⟩,⟨[],rfl,by simp,by simp⟩,⟨[],rfl,by simp⟩,.inr ⟨rfl,rfl⟩,.inr rfl⟩).le (by omega)) ⟨_,rfl⟩ fh)
end
end
section
open Go Go.ax QQ
section
variable {m N:Nat} {Q:V->List (List C)->Prop} {k:WK} {tt st:Tag} {tm:List TM} {ss:List SR} {nz rm:Int} {d:aq ah}
def Nv {ss:List SR} {i:Nat} {s:SR} (hs:ss[i]? = some s) {t:Tag} {r:RR}:bS (ss.map cS) (0+i) 8 (.sl t 3 r)=(ss.set i { s with wt:=t,ws:=r }).map cS:=by
 have:(ss.map cS).getD (0+i) []=cS s:=by simp[List.getD,hs]
 unfold bS;rw[this,cQ,vx];rfl
def Nu {ss:List SR} {i:Nat} {s:SR} (hs:ss[i]? = some s) {t:Tag} {r:RR}:bS (bS (ss.map cS) (0+i) 8 .dead) (0+i) 8 (.sl t 3 r)=(ss.set i { s with wt:=t,ws:=r }).map cS:=by
 have hi:i < ss.length:=(cd.1 hs).1;have:(ss.map cS).getD (0+i) []=cS s:=by simp[List.getD,hs]
 unfold bS;rw[this,cQ,vx];have e:(((ss.map cS).set i ((cS s).set 8 .dead)).getD i [])=(cS s).set 8 .dead:=by
  simp[List.getD,hi]
 rw[e,Wh];rfl
def afJ {L:RR} {z:Int} {i:Nat} {s:SR} {ss:List SR} (hL:L=ss.map cS) (hz:z=(i:Int)) (hs:ss[i]? = some s) (hw:s.wt = .im true) {K:Nat->OR} (h:Wp (K i) Q) :
  Wp (ay (bL z) λo5=>gd (decide (o5 < L.length)) (ay (L[0+o5]?) λo6=>gd (decide (9<=o6.length)) (bR [.im 3] (List.take 1 (List.drop 8 o6)) λv7=>gd (v7.1.1&&true&&true) (ay (bL z) λo8=>gd (decide (o8 < L.length)) (ay (L[0+o8]?) λo9=>gd (decide (9<=o9.length)&&true) (bR [.im 3] (List.take 1 (List.drop 8 o9)) λv10=>K o8)))))) Q:=by
 subst hL;have hi:i < ss.length:=(cd.1 hs).1;have hg:(ss.map cS)[0+i]? = some (cS s):=by rw[cQ,bQ,hs];rfl
 have hd:dI [.im 3] (List.take 1 (List.drop 8 (cS s)))=some ((true,s.ws),()):=by
  show dI [.im 3] [.sl s.wt 3 s.ws]=_;rw[hw];rfl
 refine iA hz (az (aM (by simpa using hi)) (eg hg (az rfl (gi hd (az rfl ?_)))));exact iA hz (az (aM (by simpa using hi)) (eg hg (az rfl (gi hd h))))
def Ix {z:Nat} {r:RR} {K:Nat->RR->OR} (h:Wp (K z r) Q):Wp (ga (.sl .own z r) K) Q:=h
def ath {L:RR} {z:Int} {i:Nat} {s:SR} {ss:List SR} (hL:L=ss.map cS) (hz:z=(i:Int)) (hs:ss[i]? = some s) {K:Nat->OR} (h:Wp (K i) Q) :
  Wp (ay (bL z) λo8=>gd (decide (o8 < L.length)) (ay (L[0+o8]?) λo9=>gd (decide (9<=o9.length)&&true) (bR [.any] (List.take 1 (List.drop 8 o9)) λv10=>K o8))) Q:=by
 subst hL;have hi:i < ss.length:=(cd.1 hs).1;have hg:(ss.map cS)[0+i]? = some (cS s):=by rw[cQ,bQ,hs];rfl
 exact iA hz (az (aM (by simpa using hi)) (eg hg (az rfl (gi (v:=(.sl s.wt 3 s.ws,())) rfl h))))
def Vs {L:RR} {z:Int} {i x:Nat} {s:SR} {ss:List SR} (hL:L=ss.map cS) (hz:z=(i:Int)) (hs:ss[i]? = some s) (hw:s.wt = .own) (hx:x=s.ws.length) (hl:s.ws.length<=1000) {K:Nat->RR->OR} (h:Wp (K i s.ws) Q) :
  Wp (ay (L[0+i]?) λoN=>ay (oN[8]?) λHv=>ga Hv λIA tF=>gd (IA==3) (gd (x==tF.length&&true&&decide ((tF.length+1) * 40<=140737488355328)) (ay (bL z) λnj=>gd (decide (nj < L.length)) (gd (Nat.beq (0+i) (0+nj)) (ay (L[0+i]?) λHw=>ay (Hw[8]?) λHx=>ga Hx λIB r33=>gd (IB==3) (ay ((bS L (0+i) 8 D.dead)[0+nj]?) λyI=>gd (decide (9<=yI.length)&&true) (bR [.any] (List.take 1 (List.drop 8 yI)) λny=>K nj tF))))))) Q:=by
 subst hL;subst hx;have hi:i < ss.length:=(cd.1 hs).1;have hg:(ss.map cS)[0+i]? = some (cS s):=by rw[cQ,bQ,hs];rfl
 have h8:(cS s)[8]? = some (.sl .own 3 s.ws):=by
  show some (D.sl s.wt 3 s.ws)=_;rw[hw]
 have hr:(bS (ss.map cS) (0+i) 8 D.dead)[0+i]? = some ((cS s).set 8 .dead):=by
  have:(ss.map cS).getD (0+i) []=cS s:=by simp[List.getD,hs]
  unfold bS;rw[this];simp[hi]
 refine eg hg (eg h8 (Ix (az rfl (az (gW (by omega) (by omega)) (iA hz (az (aM (by simpa using hi)) (az (Nat.beq_refl _) ?_)))))));exact eg hg (eg h8 (Ix (az rfl (eg hr (az rfl (gi (v:=(.dead,())) rfl h))))))
def afK {L:RR} {z:Int} {i:Nat} {s:SR} {ss:List SR} (hL:L=ss.map cS) (hz:z=(i:Int)) (hs:ss[i]? = some s) (hw:ll s.wt s.ws) (hl:s.ws.length<=1000) {K1:Nat->OR} {K2:Nat->Nat->RR->OR} (h1:s.ws=[]->Wp (K1 i) Q) (h2:Wp (K2 i i s.ws) Q) :
  Wp (ay (bL z) λoO=>gd (decide (oO < L.length)) (ay (L[0+oO]?) λHy=>gd (decide (9<=Hy.length)) (bR [.sl 3] (List.take 1 (List.drop 8 Hy)) λv37=>zZ v37.1.1 λt38=>zM t38 (λFa=>gd (Fa&&true&&true) (ay (bL z) λo8=>gd (decide (o8 < L.length)) (ay (L[0+o8]?) λo9=>gd (decide (9<=o9.length)&&true) (bR [.any] (List.take 1 (List.drop 8 o9)) λv10=>K1 o8)))) (ay (L[0+oO]?) λoN=>ay (oN[8]?) λHv=>ga Hv λIA tF=>gd (IA==3) (gd (v37.1.2.length==tF.length&&true&&decide ((tF.length+1) * 40<=140737488355328)) (ay (bL z) λnj=>gd (decide (nj < L.length)) (gd (Nat.beq (0+oO) (0+nj)) (ay (L[0+oO]?) λHw=>ay (Hw[8]?) λHx=>ga Hx λIB r33=>gd (IB==3) (ay ((bS L (0+oO) 8 D.dead)[0+nj]?) λyI=>gd (decide (9<=yI.length)&&true) (bR [.any] (List.take 1 (List.drop 8 yI)) λny=>K2 oO nj tF)))))))))) Q:=by
 have fY:=hL;subst hL;have hi:i < ss.length:=(cd.1 hs).1;have hg:(ss.map cS)[0+i]? = some (cS s):=by rw[cQ,bQ,hs];rfl
 have hd:dI [.sl 3] (List.take 1 (List.drop 8 (cS s)))=some ((s.wt,s.ws),()):=rfl;refine iA hz (az (aM (by simpa using hi)) (eg hg (az rfl (gi hd ?_))));rcases hw with hw | ⟨hw,nO⟩
 ·rw[hw];exact ij (Vs rfl hz hs hw rfl hl h2)
 ·rw[hw];exact eL (az rfl (ath rfl hz hs (h1 nO)))
def yM {s:SR} (h:iK s) {w:WR} (hl:s.ws.length < 100):iK { s with wt:=.own,ws:=s.ws++[cW w] } := by
 obtain⟨h1,h2,⟨l,h3,h3'⟩,h4⟩:=h;refine⟨h1,h2,⟨l++[w],by simp[h3],?_⟩,.inl rfl,h4.2⟩;rw[h3] at hl;simp at hl ⊢;omega
def WH.set {i:Nat} {s:SR} (h:WH N tt tm .own ss nz rm) (hs:iK s) {t:Tag} (ht:t = .own):WH N tt tm t (ss.set i s) nz rm:=by
 have mu:=h.se rfl;refine⟨h.ot,.inl ht,h.nt,by have:=h.ns;simpa using this,h.kT,?_,h.n0,h.r1,h.r2,h.te,λ_=>by simpa using mu⟩;intro x hx;rcases IK hx with hx | hx
 ·exact h.kS x hx
 ·subst hx;exact hs
def xb {X:Type} {l x:List X} {a b:X}:((l++[a])++x).set l.length b=(l++[b])++x:=by
 rw[fI,fI,List.set_append_right _ _ (by omega)];simp
def CB {X:Type} {l x:List X} {a:X}:((l++[a])++x)[l.length]? = some a:=by
 rw[fI,qP (by omega)];simp
def asK (hm:120<=m) (hN:N<=50000000) (H:WH N tt tm st ss nz rm) (hd:cu d) {K:lG.T->OR}
  (h:∀dT fq gV d',WH (N+12) .own dT .own fq nz gV->(∃x,fq=ss++x/\1<=x.length)->cu d'->Wp (K ((),W k .own dT .own fq nz gV,d',())) Q):Wp (Xp (T m) (W k tt tm st ss nz rm) d K) Q:=by
 obtain⟨m,rfl⟩:=bl 2 m;have hl:=H.nt;have hs:=H.ns;have r1:=H.r1;have r2:=H.r2;have rest:∀(s0:SR) (x0:aq aN) (x1:aq ah) (a2:aq ez) (z:Int) (zc:List TM),iK s0->s0.wt = .im true->s0.ws=[]->WH (N+4) .own zc .own (ss++[s0]) nz (rm - 1)->
   Wp (Sq (T (m+1)) (m+1) x0 x1 (m+1) (Wr k .own (zc.map bH) .own (bS ((ss++[s0]).map cS) (0+ss.length) 8 (.sl .own 3 [[.str [],.str [],.int .i64 z]])) nz (rm - 1)) d a2 (ss.length:Int)) (J lG K Q):=by
  intro s0 x0 x1 a2 z zc oE hw0 Az H3;have e1:(ss++[s0]).set ss.length { s0 with wt:=.own,ws:=[cW ⟨[],[],z⟩] } = ss++[{ s0 with wt:=.own,ws:=[cW ⟨[],[],z⟩] }]:=by
   have:=xb (l:=ss) (x:=[]) (a:=s0) (b:={ s0 with wt:=.own,ws:=[cW ⟨[],[],z⟩] });simpa using this
  rw[Nv (s:=s0) (by simp)];have P0:(ss++[s0]).set ss.length { s0 with wt:=.own,ws:=[[D.str [],D.str [],D.int .i64 z]] } = ss++[{ s0 with wt:=.own,ws:=[cW ⟨[],[],z⟩] }]:=e1;rw[P0];have ka:iK { s0 with wt:=.own,ws:=[cW ⟨[],[],z⟩] } := by
   have:=yM oE (w:=⟨[],[],z⟩) (by rw[Az];simp);rw[Az] at this;exact this
  have H4:WH (N+4) .own zc .own (ss++[{ s0 with wt:=.own,ws:=[cW ⟨[],[],z⟩] }]) nz (rm - 1):=by
   have:=H3.set (i:=ss.length) ka (t:=.own) rfl;rw[e1] at this;exact this
  generalize hS:({ s0 with wt:=.own,ws:=[cW ⟨[],[],z⟩] }:SR)=s1 at ka H4;have nO:s1.wt = .own:=by subst hS;rfl
  have Kq:s1.ws.length=1:=by subst hS;rfl
  have l4:=H4.nt;have l5:=H4.ns;refine aG amu (mJ (m:=m+1) (by omega) ?_);refine sh (m:=m+1) (k:=k) (ss:=ss++[s1]) (by omega) (by omega) (.inl rfl) ?_;refine asS (m:=m+1) (k:=k) (by omega) (by simp;omega) (.inl rfl) (qC H4.kT ⟨.inl rfl,rfl,rfl,iZ⟩) λy NN hT4 Ru=>?_
  have Z6:NN.length=zc.length+4:=by rw[Ru];simp
  have H5:=H4.tQ (M:=N+8) (dT:=NN) (by omega) (by have:=H3.nt;omega) hT4 (by intro h0;rw[h0] at Z6;simp at Z6);refine Vn (m:=m+1) (k:=k) (by omega) (by omega) (.inl rfl) (by omega) (by omega) (by simp) ?_;have H6:=H5.step (s:=⟨6,[],[],[],k.self,-1,.own,[[.int .i64 (zc.length:Int)],[.int .i64 y]],.im true,[],.im true,[],-1⟩) ⟨⟨[_,_],rfl,by simp⟩,⟨[],rfl,by simp,by simp⟩,⟨[],rfl,by simp⟩,.inr ⟨rfl,rfl⟩,.inr rfl⟩;refine NZ (m:=m+1) (k:=k) (by omega) (N:=N+9) (by omega) H6 λnU Eh H7 ⟨x,hx,wq⟩=>ij ?_
  have fB:nU[ss.length]? = some s1:=by
   rw[hx,fI];exact CB
  have af:ss.length < nU.length:=(cd.1 fB).1;refine iA rfl (az (aM (by simpa[W] using af)) (eg (b:=cS s1) (by show (nU.map cS)[0+ss.length]? = _;rw[cQ,bQ,fB];rfl) (az rfl (gi (v:=(s1.ws,())) ?_ ?_))))
  ·show dI [.own 3] [.sl s1.wt 3 s1.ws]=_;rw[nO];rfl
  refine Vs (ss:=nU) (s:=s1) rfl rfl fB nO rfl (by omega) (aB ?_);refine aH (x:=((),W k .own NN .own (nU.set ss.length { s1 with wt:=.own,ws:=s1.ws++[cW ⟨[],[],((((ss++[s1])++[(⟨6,[],[],[],k.self,-1,.own,[[.int .i64 (zc.length:Int)],[.int .i64 y]],.im true,[],.im true,[],-1⟩:SR)]).length:Nat):Int)⟩] }) nz Eh,d,())) ?_ (h _ _ _ _ ((H7.set (yM ka (by omega)) rfl).le (by omega)) ?_ hd)
  ·show jH lG (.ao [],[bx aN (Wr k .own (NN.map bH) .own (bS (bS (nU.map cS) (0+ss.length) 8 .dead) (0+ss.length) 8 (.sl .own 3 (s1.ws++[cW ⟨[],[],((((ss++[s1])++[(⟨6,[],[],[],k.self,-1,.own,[[.int .i64 (zc.length:Int)],[.int .i64 y]],.im true,[],.im true,[],-1⟩:SR)]).length:Nat):Int)⟩]))) nz Eh),bx ah d])=_;rw[Nu fB];rfl
  ·rw[hx,fI _ _ x,xb];exact⟨_,fI _ _ _,by simp⟩
 refine bI ahP (mJ (m:=m+1) (by omega) ?_);refine w_num (m:=m+1) (k:=k) (by omega) (by omega) H.ot ?_;refine sh (m:=m+1) (k:=k) (by omega) (by simp;omega) (.inl rfl) ?_;refine zg (m:=m+1) (k:=k) (by omega) (by simp;omega) (.inl rfl) ?_;have H2:=H.tQ (M:=N+3) (dT:=_) (by omega) (by simp;omega) (yN (x:=⟨1,[],0,[],-1,-1⟩) (y:=⟨0,[110],0,[],-1,-1⟩) (c:=12) H.kT ⟨.inr (.inl rfl),rfl,rfl,iZ⟩ ⟨.inl rfl,rfl,rfl,iZ⟩ (.inr (.inr (.inr (.inl rfl)))) (.inl (by decide)));refine Br (m:=m+1) (k:=k) (by omega) (by omega) H.os (by omega) (by omega) ?_;refine afJ (i:=ss.length) (s:=⟨3,[],[],[],[],((tm++[(⟨1,[],0,[],-1,-1⟩:TM)]++[(⟨0,[110],0,[],-1,-1⟩:TM)]).length:Int),.im true,[],.im true,[],.im true,[],-1⟩) rfl rfl (by simp) rfl ?_;exact rest _ _ _ _ _ _ nQ rfl rfl (H2.step nQ)
end
end
section
open Go Go.ax QQ
structure RL (k:WK) (L:LR):Prop where
 i:∃r:Nat,k.role=(r:Int)/\k.ty[r]? = some L
 l1:1<=L.ts.length
 l2:L.ts.length<=100
 ok:∀t∈L.ts,HE L.ts.length t
def IQ (k:WK) (M:Nat) (ss:List SR) (K:lG.T->OR) (Q:V->List (List C)->Prop):Prop:=
 ∀lh dT fq oM gV d',WH M lh dT .own fq oM gV->(∃x,fq=ss++x/\1<=x.length)->cu d'->Wp (K ((),W k lh dT .own fq oM gV,d',())) Q
def Bd:Nat->Nat
 | 0=>20
 | e+1=>11 * Bd e+300
def vz (e:Nat):Prop:=∀(m N:Nat) (k:WK) (L:LR) (tt st:Tag) (tm:List TM) (ss:List SR) (nz rm:Int) (d:aq ah) (nV:Nat) (K:lG.T->OR) (Q:V->List (List C)->Prop),
 200+20 * e<=m->N+Bd e<=40000000->KH k->RL k L->nV < L.ts.length->WH N tt tm st ss nz rm->cu d->IQ k (N+Bd e) ss K Q->Wp (Ff (T m) (nV:Int) ((5 - e:Nat):Int) (W k tt tm st ss nz rm) d K) Q
section
variable {m N e:Nat} {Q:V->List (List C)->Prop} {k:WK} {L:LR} {tt st:Tag} {tm:List TM} {ss:List SR} {nz rm:Int} {d:aq ah}
def IU (k:WK) (M:Nat) (ss:List SR) (z:Int) (K:vd.T->OR) (Q:V->List (List C)->Prop):Prop:=
 ∀lh dT fq oM gV d',WH M lh dT .own fq oM gV->(∃x,fq=ss++x/\1<=x.length)->cu d'->Wp (K (z,W k lh dT .own fq oM gV,d',())) Q
def PU (he:e<=4):ak (((4 - e:Nat):Int)+1)=((5 - e:Nat):Int):=by
 rw[show (((4 - e:Nat):Int)+1)=((5 - e:Nat):Int) by omega];exact iP rfl (by omega)
def ad4 (hB:vz e) (he:e<=4) (hm:205+20 * e<=m) (hN:N+1+Bd e<=40000000) (hk:KH k) (hL:RL k L) {nx:Nat} (hx:nx < L.ts.length) (H:WH N tt tm st ss nz rm) (hd:cu d) {x3:aq aN} {x4:aq ah} {z:Int} {a4:aq ji} {q1:BB} {q2:Int} {q3:BB} {y1 y2:BB} {tz:Int} {K:vd.T->OR}
  (h:IU k (N+1+Bd e) ss z K Q) :
  Wp (Dv (T m) m x3 x4 m ((4 - e:Nat):Int) (W k tt tm st ss nz rm) d z a4 (q1,q2,q3,(nx:Int),()) (4,[99],y1,y2,[],tz,(true,[]),(true,[]),(true,[]),-1,())) (J vd K Q):=by
 obtain⟨j,hj⟩:=bl 1 m;have r1:=H.r1;have r2:=H.r2;have hs:=H.ns;have e1:∀w:Nat,Dv (T m) m x3 x4 m ((4 - e:Nat):Int)=Dv (T m) m x3 x4 (j+1) ((4 - e:Nat):Int):=λ_=>by rw[<-hj]
 rw[e1 0];refine aG amK ?_;refine Bt (m:=m) (k:=k) (by omega) (by omega) H.os (by omega) (by omega) ?_;rw[PU he];refine hB m (N+1) k L tt .own tm _ nz (rm - 1) d nx _ _ (by omega) (by omega) hk hL hx (H.step nQ) hd λlh dT fq oM gV d' H' wu dD=>aB ?_
 obtain⟨x,rfl,wq⟩:=wu;exact aH rfl (h _ _ _ _ _ _ H' ⟨_,fI _ _ _,by simp⟩ dD)
def arp (hB:vz e) (he:e<=4) (hm:205+20 * e<=m) (hN:N+1+Bd e<=40000000) (hk:KH k) (hL:RL k L) {nx:Nat} (hx:nx < L.ts.length) (H:WH N tt tm st ss nz rm) (hd:cu d) {x3:aq aN} {x4:aq ah} {z:Int} {a4:aq ji} {q1:BB} {q2:Int} {q3:BB} {y1 y2:BB} {tz:Int} {a7:aq dS} {K:vd.T->OR}
  (h:IU k (N+1+Bd e) ss z K Q) :
  Wp (G3 (T m) m x3 x4 m ((4 - e:Nat):Int) (W k tt tm st ss nz rm) d z a4 (q1,q2,q3,(nx:Int),()) (4,[99],y1,y2,[],tz,(true,[]),(true,[]),(true,[]),-1,()) a7) (J vd K Q):=by
 obtain⟨j,hj⟩:=bl 1 m;have r1:=H.r1;have r2:=H.r2;have hs:=H.ns;have e1:∀w:Nat,G3 (T m) m x3 x4 m ((4 - e:Nat):Int)=G3 (T m) m x3 x4 (j+1) ((4 - e:Nat):Int):=λ_=>by rw[<-hj]
 rw[e1 0];refine aG amL ?_;refine Bt (m:=m) (k:=k) (by omega) (by omega) H.os (by omega) (by omega) ?_;rw[PU he];refine hB m (N+1) k L tt .own tm _ nz (rm - 1) d nx _ _ (by omega) (by omega) hk hL hx (H.step nQ) hd λlh dT fq oM gV d' H' wu dD=>aB ?_
 obtain⟨x,rfl,wq⟩:=wu;exact aH rfl (h _ _ _ _ _ _ H' ⟨_,fI _ _ _,by simp⟩ dD)
def Vm (hB:vz e) (he:e<=4) (hm:208+20 * e<=m) (hN:N+20+Bd e<=40000000) (hk:KH k) (hL:RL k L) {nV arm:Nat} {t:TN} (ht:L.ts[nV]? = some t) (ha:arm < t.ms.length) (H:WH N tt tm st ss nz rm) (hd:cu d) {K:vd.T->OR}
  (h:IU k (N+20+Bd e) ss (ss.length:Int) K Q):Wp (c145 (T m) (nV:Int) (arm:Int) ((4 - e:Nat):Int) (W k tt tm st ss nz rm) d K) Q:=by
 obtain⟨m,rfl⟩:=bT hm;have hn:ae (ss.map cS).length=(ss.length:Int):=by rw[cm];simp
 rw[<-hn] at h;have hl:=H.nt;have hs:=H.ns;obtain⟨r,gS,kQ⟩:=hL.i;have hga:t.ms[arm]? = some t.ms[arm]:=gE ha;have wo:t∈L.ts:=ff ht;have C4:t.ms[arm].nx < L.ts.length:=by
  rcases hL.ok t wo with⟨_,h2⟩ | ⟨_,_,_,h2⟩
  ·rw[h2] at ha;simp at ha
  ·exact h2 _ (bU ha)
 have mono:∀{M:Nat},M+1+Bd e<=N+20+Bd e->∀{xc:List SR},(∃x,xc=ss++x)->IU k (M+1+Bd e) xc (ae (ss.map cS).length) K Q:=by
  intro M hM xc ⟨x,hx⟩ lh dT fq oM gV d' H' ⟨y,hy,AA⟩ dD;exact h _ _ _ _ _ _ (H'.le hM) ⟨x++y,by rw[hy,hx,fI],by simp;omega⟩ dD
 have self:∃x,ss=ss++x:=⟨[],by simp⟩
 refine bI ah6 ?_;rcases H.os with bF | ⟨bF,uM⟩<;>subst bF
 all_goals (
   first | refine ij ?_ | refine eL ?_
   refine aS Ua gS kQ ?_
   refine aS Ub rfl ht ?_
   refine aS (enc := cM) (f := λa => (a.eK, a.kd, a.nm, (a.nx : Int), ())) (λa => ⟨by simp[cM], rfl⟩) rfl hga ?_
   refine mJ (m := m) (by omega) (aj (λh1 => ?_) (λh1 => aj (λh2 => ?_) (λh2 => ?_)))
   · exact ad4 (k := k) hB he (by omega) (by omega) hk hL C4 H hd (mono (by omega) self)
   · refine afF (m := m) (k := k) (by omega) hk λp hp ro Aw => ?_
     refine Vl (m := m) (k := k) (by omega) (N := N) (by omega) H hd (hk.p2 p hp) λs tT sc xc tu tI d1 H1 wq cA => ?_
     have l1 := H1.nt
     refine sh (m := m) (k := k) (by omega) (by omega) H1.ot ?_
     exact arp (k := k) hB he (by omega) (N := N + 13) (by omega) hk hL C4 (H1.tQ (by omega) (by simp; omega) (qC H1.kT ⟨.inl rfl, rfl, rfl, iZ⟩)) cA (mono (by omega) wq)
   · refine asO (m := m) (k := k) (by omega) (by omega) H hd λz sc d1 hT1 jI alj cA => ?_
     exact ad4 (k := k) hB he (by omega) (N := N + 3) (by omega) hk hL C4 (H.tQ (by omega) (by omega) hT1 alj) cA (mono (by omega) self))
end
end
section
open Go Go.ax QQ
section
variable {m N e:Nat} {Q:V->List (List C)->Prop} {k:WK} {L:LR} {tt st:Tag} {tm:List TM} {ss:List SR} {nz rm:Int} {d:aq ah}
def ZR (hB:vz e) (he:e<=4) (q:Nat) (hq:205+20 * e<=q) (hk:KH k) (hL:RL k L) {M:Nat} (hM:M<=40000000) {t:TN} (ht:t∈L.ts) (C1:t.ms.length<=10) {x2:aq aN} {x3:aq ah} {K:lG.T->OR}
  (h:IQ k M ss K Q):∀(c i N:Nat) (tt:Tag) (tm:List TM) (s:SR) (x:List SR) (nz rm:Int) (d:aq ah),c<=q->t.ms.length - i < c->i<=t.ms.length->N+(t.ms.length - i) * (Bd e+10)+10<=M->iK s->s.ws.length<=i->WH N tt tm .own ((ss++[s])++x) nz rm->cu d->
   Wp (Dt (T q) q x2 x3 c ((4 - e:Nat):Int) (W k tt tm .own ((ss++[s])++x) nz rm) d (t.kd,t.pr,(t.t,t.ms.map cM),()) (ss.length:Int) (i:Int)) (J lG K Q)
 | 0,i,N,tt,tm,s,x,nz,rm,d,_,hc,_,_,_,_,_,_=>by omega
 | c+1,i,N,tt,tm,s,x,nz,rm,d,FU,hc,hi,hN,hs,hw,H,hd=>by
  have ls:=H.ns;have lt:=H.nt;have r1:=H.r1;have r2:=H.r2;refine aG amB (aj (λh1=>?_) (λh1=>?_))
  ·have af:i < t.ms.length:=bW h1;have hN':N+(Bd e+10)+(t.ms.length - (i+1)) * (Bd e+10)+10<=M:=by
    have:(t.ms.length - i)=(t.ms.length - (i+1))+1:=by omega
    rw[this,Nat.succ_mul] at hN;omega
   have hg:t.ms[i]? = some t.ms[i]:=gE af;have C4:t.ms[i].nx < L.ts.length:=by
    rcases hL.ok t ht with⟨_,h2⟩ | ⟨_,_,_,h2⟩
    ·rw[h2] at af;simp at af
    ·exact h2 _ (bU af)
   have Rk:(t.ms.map cM)[i]? = some (cM t.ms[i]):=by rw[bQ,hg];rfl
   have Kr:=wI i;have rest:∀(tT:Tag) (sc:List TM) (Et:Tag) (x1:List SR) (tu tI:Int) (d1:aq ah) (y1 y2:BB) (y3:Int),WH (N+5) tT sc Et ((ss++[s])++x1) tu tI->cu d1->
     Wp (Du (T q) q x2 x3 c q ((4 - e:Nat):Int) (W k tT sc Et ((ss++[s])++x1) tu tI) d1 (t.kd,t.pr,(t.t,t.ms.map cM),()) (ss.length:Int) (i:Int) (y1,y2,y3,())) (J lG K Q):=by
    intro tT sc Et x1 tu tI d1 y1 y2 y3 H1 cA;obtain⟨j,hj⟩:=bl 1 q;have e1:Du (T q) q x2 x3 c q ((4 - e:Nat):Int)=Du (T q) q x2 x3 c (j+1) ((4 - e:Nat):Int):=by rw[<-hj]
    rw[e1];refine aG amC ?_;refine aS Ed rfl hg ?_;rw[PU he];refine hB q (N+5) k L tT Et sc _ tu tI d1 _ _ _ (by omega) (by omega) hk hL C4 H1 cA λEB Eu zb nz2 Eg d2 H2 wu fh=>ij ?_
    obtain⟨y,hy,AA⟩:=wu;have gN:zb=(ss++[s])++(x1++y):=by rw[hy];simp
    have fB:zb[ss.length]? = some s:=by rw[gN];exact CB
    rw[Kr];have cU:∀(s2:SR),iK s2->s2.ws.length<=i+1->Wp (Dt (T q) q x2 x3 c ((4 - e:Nat):Int) (Wr k EB (Eu.map bH) .own ((zb.set ss.length s2).map cS) nz2 Eg) d2 (t.kd,t.pr,(t.t,t.ms.map cM),()) (ss.length:Int) ((i+1:Nat):Int)) (J lG K Q):=by
     intro s2 mq nO;have H3:=H2.set (i:=ss.length) mq (t:=.own) rfl;rw[gN,xb] at H3 ⊢;exact ZR hB he q hq hk hL hM ht C1 h c (i+1) (N+(Bd e+10)) EB Eu s2 (x1++y) nz2 Eg d2 (by omega) (by omega) (by omega) hN' mq nO (H3.le (by omega)) fh
    refine afK (ss:=zb) (s:=s) rfl rfl fB hs.2.2.2.1 (by omega) (λh0=>?_) ?_
    ·have:=yM hs (w:=⟨y1,y2,y3⟩) (by omega);rw[h0] at this;have g:=cU _ this (by simp);rw[<-Nv fB] at g;exact g
    ·have g:=cU _ (yM hs (w:=⟨y1,y2,y3⟩) (by omega)) (by simp;omega);rw[<-Nu fB] at g;exact g
   refine aS Uc rfl hg (ij ?_);refine iA rfl (eg Rk (az rfl (gi (v:=(t.ms[i].kd,())) rfl (aj (λh2=>?_) (λh2=>?_)))))
   ·obtain⟨z,rfl,hz⟩:=H.n0;refine afn (m:=q) (k:=k) (by omega) (by omega) λy g1 g2=>?_
    refine aS Na rfl hg ?_;refine ate (m:=q) (k:=k) (by omega) (N:=N+1) (by omega) H.fresh hk hd λtT sc Et xc tI d1 H1 wu cA=>?_
    obtain⟨y2,rfl⟩:=wu;have:=rest tT sc Et (x++y2) _ tI d1 t.ms[i].eK y (ae (((ss++[s])++x).map cS).length) (by rw[<-fI];exact H1.le (by omega)) cA;rw[<-fI] at this;exact this
   ·exact rest tt tm .own x nz rm d _ _ _ (H.le (by omega)) hd
  ·refine jV (m:=q) (n:=3) (by omega) (by omega) (by omega) hd λj d1 hj cA=>aj (λh2=>ij ?_) (λh2=>?_)
   ·refine mJ (m:=q) (by omega) (Bs (m:=q) (k:=k) (by omega) (by omega) H.ot ?_);refine Bt (m:=q) (k:=k) (by omega) (by omega) H.os (by omega) (by omega) (mJ (m:=q) (by omega) ?_);have H2:=H.tQ (M:=N+1) (dT:=tm++[(⟨3,[],0,[108,111,115,116],-1,-1⟩:TM)]) (by omega) (by simp;omega) (qC H.kT ⟨.inr (.inr (.inl rfl)),rfl,rfl,iZ⟩);refine Br (m:=q) (k:=k) (by omega) (by simp at ls ⊢;omega) (.inl rfl) (by omega) (by omega) ?_;have H3:=(H2.step (s:=⟨2,[],[],[],[],(tm.length:Int),.im true,[],.im true,[],.im true,[],((((ss++[s])++x).length+1:Nat):Int)⟩) nQ).step (s:=⟨0,[],[],[],[],-1,.im true,[],.im true,[],.im true,[],-1⟩) nQ;have fin:∀(s2:SR) (x2:List SR),iK s2->WH (N+1+1+1) .own (tm++[(⟨3,[],0,[108,111,115,116],-1,-1⟩:TM)]) .own ((ss++[s2])++x2) nz (rm - 1 - 1)->Wp (K ((),W k .own (tm++[(⟨3,[],0,[108,111,115,116],-1,-1⟩:TM)]) .own ((ss++[s2])++x2) nz (rm - 1 - 1),d1,())) Q:=
     λs2 x2 mq H5=>h _ _ _ _ _ _ (H5.le (by omega)) ⟨_,fI _ _ _,by simp⟩ cA
    generalize hz1:(⟨2,[],[],[],[],(tm.length:Int),.im true,[],.im true,[],.im true,[],((((ss++[s])++x).length+1:Nat):Int)⟩:SR)=sa at H3;generalize Ku:(⟨0,[],[],[],[],-1,.im true,[],.im true,[],.im true,[],-1⟩:SR)=sb at H3;have fB:(((ss++[s])++x)++[sa]++[sb])[ss.length]? = some s:=by
     rw[show ((ss++[s])++x)++[sa]++[sb]=(ss++[s])++(x++[sa]++[sb]) by simp];exact CB
    have cU:∀(s2:SR),iK s2->Wp (aA lG (some (.ao [],[bx aN (Wr k .own ((tm++[(⟨3,[],0,[108,111,115,116],-1,-1⟩:TM)]).map bH) .own (((((ss++[s])++x)++[sa]++[sb]).set ss.length s2).map cS) nz (rm - 1 - 1)),bx ah d1])) K) Q:=by
     intro s2 mq;have H4:=H3.set (i:=ss.length) mq (t:=.own) rfl;rw[show ((ss++[s])++x)++[sa]++[sb]=(ss++[s])++(x++[sa]++[sb]) by simp,xb] at H4 ⊢;exact aH rfl (fin s2 _ mq H4)
    subst hz1 Ku;refine afK (s:=s) rfl rfl fB hs.2.2.2.1 (by omega) (λh0=>aB ?_) (aB ?_)
    ·have:=yM hs (w:=⟨[],[],ae (((ss++[s])++x).map cS).length⟩) (by omega);rw[h0] at this;have g:=cU _ this;rw[<-Nv fB] at g;exact g
    ·have g:=cU _ (yM hs (w:=⟨[],[],ae (((ss++[s])++x).map cS).length⟩) (by omega));rw[<-Nu fB] at g;exact g
   ·exact aB (aH rfl (h _ _ _ _ _ _ (H.le (by omega)) ⟨[s]++x,by simp,by simp⟩ cA))
def asQ (hB:vz e) (he:e<=4) (hm:208+20 * e<=m) (hN:N+11 * Bd e+200<=40000000) (hk:KH k) (hL:RL k L) {nV:Nat} {t:TN} (ht:L.ts[nV]? = some t) (H:WH N tt tm st ss nz rm) (hd:cu d) {K:lG.T->OR}
  (h:IQ k (N+11 * Bd e+200) ss K Q):Wp (c143 (T m) (nV:Int) ((4 - e:Nat):Int) (W k tt tm st ss nz rm) d K) Q:=by
 obtain⟨m,rfl⟩:=bT hm;have hs:=H.ns;have r1:=H.r1;have r2:=H.r2;obtain⟨r,gS,kQ⟩:=hL.i;have wo:t∈L.ts:=ff ht;have C1:t.ms.length<=10:=by
  rcases hL.ok t wo with⟨_,h2⟩ | ⟨_,_,h2,_⟩
  ·rw[h2];simp
  ·exact h2
 refine bI ahY ?_;refine aS Ua gS kQ ?_;refine aS Ub rfl ht ?_;refine mJ (m:=m) (by omega) (Br (m:=m) (k:=k) (by omega) (by omega) H.os (by omega) (by omega) ?_);have hNN:N+1+(t.ms.length - 0) * (Bd e+10)+10<=N+11 * Bd e+200:=by
  have:(t.ms.length - 0) * (Bd e+10)<=10 * (Bd e+10):=p8 _ (by omega);omega
 have:=ZR hB he m (by omega) hk hL hN wo C1 h m 0 (N+1) tt tm ⟨5,[99],t.pr,[],[],-1,.im true,[],.im true,[],.im true,[],-1⟩ [] nz (rm - 1) d (by omega) (by omega) (by omega) hNN nQ (by simp) (by rw[oa];exact H.step nQ) hd (x2:=W k tt tm st ss nz rm) (x3:=d);rw[oa] at this;exact this
end
end
section
open Go Go.ax QQ
section
variable {m N e:Nat} {Q:V->List (List C)->Prop} {k:WK} {L:LR} {tt st:Tag} {tm:List TM} {ss:List SR} {nz rm:Int} {d:aq ah}
def Wj:∀e,20<=Bd e
 | 0=>by decide
 | e+1=>by have:=Wj e;unfold Bd;omega
def agt (hB:vz e) (he:e<=4) (hm:210+20 * e<=m) (hN:N+30+Bd e<=40000000) (hk:KH k) (hL:RL k L) {nV arm:Nat} {t:TN} (ht:L.ts[nV]? = some t) (ha:arm < t.ms.length)
  {s0:SR} {x:List SR} {z:Int} (oE:iK s0) (hw0:s0.wt = .im true) (Az:s0.ws=[]) (H:WH N tt tm .own ((ss++[s0])++x) nz rm) (hd:cu d) {x2:aq aN} {x3:aq ah} {a4:aq ji} {a5:aq ez} {K:lG.T->OR}
  (h:IQ k (N+20+Bd e) ss K Q) :
  Wp (AH (T m) m x2 x3 m (nV:Int) ((4 - e:Nat):Int) (Wr k tt (tm.map bH) .own (bS (((ss++[s0])++x).map cS) (0+ss.length) 8 (.sl .own 3 [[.str [],.str [],.int .i64 z]])) nz rm) d a4 a5 (ss.length:Int) (arm:Int)) (J lG K Q):=by
 obtain⟨j,hj⟩:=bl 1 m;have e1:AH (T m) m x2 x3 m=AH (T m) m x2 x3 (j+1):=by rw[<-hj]
 rw[e1,Nv (s:=s0) CB];have ka:iK { s0 with wt:=.own,ws:=[[D.str [],D.str [],D.int .i64 z]] } := by
  have:=yM oE (w:=⟨[],[],z⟩) (by rw[Az];simp);rw[Az] at this;exact this
 have H2:=H.set (i:=ss.length) ka (t:=.own) rfl;rw[xb] at H2 ⊢;generalize hS:({ s0 with wt:=.own,ws:=[[D.str [],D.str [],D.int .i64 z]] }:SR)=s1 at ka H2;have nO:s1.wt = .own:=by subst hS;rfl
 have Kq:s1.ws.length=1:=by subst hS;rfl
 refine aG amx ?_;refine Vm (m:=m) (k:=k) (ss:=(ss++[s1])++x) hB he (by omega) (N:=N) (by omega) hk hL ht ha H2 hd λU7 UZ nU Tl Eh d5 H7 ⟨y,hy,AA⟩ FW=>ij ?_
 have fB:nU[ss.length]? = some s1:=by rw[hy,fI];exact CB
 have af:ss.length < nU.length:=(cd.1 fB).1;refine iA rfl (az (aM (by simpa[W] using af)) (eg (b:=cS s1) (by show (nU.map cS)[0+ss.length]? = _;rw[cQ,bQ,fB];rfl) (az rfl (gi (v:=(s1.ws,())) ?_ ?_))))
 ·show dI [.own 3] [.sl s1.wt 3 s1.ws]=_;rw[nO];rfl
 refine Vs (ss:=nU) (s:=s1) rfl rfl fB nO rfl (by omega) (aB ?_);refine aH (x:=((),W k U7 UZ .own (nU.set ss.length { s1 with wt:=.own,ws:=s1.ws++[cW ⟨[],[],((((ss++[s1])++x).length:Nat):Int)⟩] }) Tl Eh,d5,())) ?_ (h _ _ _ _ _ _ ((H7.set (yM ka (by omega)) rfl).le (by omega)) ?_ FW)
 ·show jH lG (.ao [],[bx aN (Wr k U7 (UZ.map bH) .own (bS (bS (nU.map cS) (0+ss.length) 8 .dead) (0+ss.length) 8 (.sl .own 3 (s1.ws++[cW ⟨[],[],((((ss++[s1])++x).length:Nat):Int)⟩]))) Tl Eh),bx ah d5])=_;rw[Nu fB];rfl
 ·rw[hy,fI _ x y,xb];exact⟨_,fI _ _ _,by simp⟩
def Xa (e:Nat) (he:e<=5) (hp:∀e',e=e'+1->vz e'):vz e:=by
 intro m N k L tt st tm ss nz rm d nV K Q hm hN hk hL htu H hd h;obtain⟨m,rfl⟩:=bT hm;obtain⟨r,gS,kQ⟩:=hL.i;have ht:L.ts[nV]? = some L.ts[nV]:=gE htu;generalize L.ts[nV]=t at ht;have wo:t∈L.ts:=ff ht;have hb:=Wj e;have ls:=H.ns;have lt:=H.nt;have r1:=H.r1;have r2:=H.r2;refine bI ahT ?_;refine aS Ua gS kQ ?_;refine aS Ub rfl ht (aj (λh1=>?_) (λh1=>?_))
 ·refine NZ (m:=m) (k:=k) (by omega) (N:=N) (by omega) H λfq gV H' hx=>aB ?_
  exact aH rfl (h _ _ _ _ _ _ (H'.le (by omega)) hx hd)
 have nJ:t.kd≠0:=by simpa using h1
 have C1:1<=t.ms.length:=by
  rcases hL.ok t wo with⟨h2,_⟩ | ⟨_,h2,_,_⟩
  ·exact absurd h2 nJ
  ·exact h2
 have atM:t.ms.length<=10:=by
  rcases hL.ok t wo with⟨h2,_⟩ | ⟨_,_,h2,_⟩
  ·exact absurd h2 nJ
  ·exact h2
 refine aj (λh2=>aj (λh3=>aj (λh4=>?_) (λh4=>?_)) (λh3=>?_)) (λh2=>?_)
 ·refine asK (m:=m) (k:=k) (by omega) (N:=N) (by omega) H hd λdT fq gV d' H' hx dD=>aB ?_
  exact aH rfl (h _ _ _ _ _ _ (H'.le (by omega)) hx dD)
 all_goals (
   refine aj (λh5 => ?_) (λh5 => aj (λh6 => ?_) (λh6 => ?_))
   · refine NZ (m := m) (k := k) (by omega) (N := N) (by omega) H λfq gV H' hx => aB ?_
     exact aH rfl (h _ _ _ _ _ _ (H'.le (by omega)) hx hd)
   · refine NZ (m := m) (k := k) (by omega) (N := N) (by omega) H λfq gV H' hx => aB ?_
     exact aH rfl (h _ _ _ _ _ _ (H'.le (by omega)) hx hd)
   cases e with
   | zero => exact absurd h6 (by decide)
   | succ e =>
     have hB := hp e rfl
     rw[show 5 - (e + 1) = 4 - e by omega]
     have hbe : Bd (e + 1) = 11 * Bd e + 300 := rfl
     have say : ∀ {d1 : aq ah} (j : Nat), j < (t.ms.map cM).length -> cu d1 -> Wp (c145 (T m) (nV : Int) (j : Int) ((4 - e : Nat) : Int) (W k tt tm st ss nz rm) d1 λeZ => (some ((.ao []), [(bx aN eZ.2.1), (bx ah eZ.2.2.1)]))) (J lG K Q) := by
       intro d1 j hj cA
       refine Vm (m := m) (k := k) hB (by omega) (by omega) (N := N) (by omega) hk hL ht (by simpa using hj) H cA λlh dT fq oM gV d' H' hx dD => aB ?_
       exact aH rfl (h _ _ _ _ _ _ (H'.le (by omega)) hx dD)
     refine aj (λh7 => ?_) (λh7 => aj (λh8 => aj (λh9 => ?_) (λh9 => ?_)) (λh8 => ?_))
     · refine asQ (m := m) (k := k) hB (by omega) (by omega) (N := N) (by omega) hk hL ht H hd λlh dT fq oM gV d' H' hx dD => aB ?_
       exact aH rfl (h _ _ _ _ _ _ (H'.le (by omega)) hx dD)
     · refine mJ (m := m) (by omega) (jV (m := m) (n := 3) (by omega) (by omega) (by omega) hd λj0 d0 J9 FV => ?_)
       refine w_num (m := m) (k := k) (by omega) (by omega) H.ot ?_
       refine sh (m := m) (k := k) (by omega) (by simp; omega) (.inl rfl) ?_
       refine zg (m := m) (k := k) (by omega) (by simp; omega) (.inl rfl) ?_
       have H2 := H.tQ (M := N + 3) (dT := _) (by omega) (by simp; omega) (yN (x := ⟨1, [], (j0 : Int), [], -1, -1⟩) (y := ⟨0, [110], 0, [], -1, -1⟩) (c := 12) H.kT ⟨.inr (.inl rfl), rfl, rfl, iZ⟩ ⟨.inl rfl, rfl, rfl, iZ⟩ (.inr (.inr (.inr (.inl rfl)))) (.inl (show (1 : Int) ≠ 0 by decide)))
       refine Br (m := m) (k := k) (by omega) (by omega) H.os (by omega) (by omega) ?_
       refine jV (m := m) (n := (t.ms.map cM).length) (by omega) (by simp; omega) (by simp; omega) FV λj1 d1 yg cA => ?_
       refine jV (m := m) (n := (t.ms.map cM).length) (by omega) (by simp; omega) (by simp; omega) cA λj2 d2 lx fh => ?_
       have H3 := H2.step (s := (⟨3, [], [], [], [], (((tm ++ [(⟨1, [], (j0 : Int), [], -1, -1⟩ : TM)] ++ [(⟨0, [110], 0, [], -1, -1⟩ : TM)]).length : Nat) : Int), .im true, [], .im true, [], .im true, [], -1⟩ : SR)) nQ
       refine Vm (m := m) (k := k) hB (by omega) (by omega) (N := N + 3 + 1) (by omega) hk hL ht (by simpa using yg) H3 fh λU7 UZ nU Tl Eh d5 H5 ⟨y, hy, AA⟩ FW => ij ?_
       have fB : nU[ss.length]? = some (⟨3, [], [], [], [], (((tm ++ [(⟨1, [], (j0 : Int), [], -1, -1⟩ : TM)] ++ [(⟨0, [110], 0, [], -1, -1⟩ : TM)]).length : Nat) : Int), .im true, [], .im true, [], .im true, [], -1⟩ : SR) := by rw[hy]; exact CB
       refine afJ (ss := nU) rfl rfl fB rfl ?_
       subst hy
       exact agt (k := k) hB (by omega) (by omega) (N := N + 4 + 20 + Bd e) (by omega) hk hL ht (by simpa using lx) nQ rfl rfl (H5.le (by omega)) FW (λlh dT fq oM gV d' H' hx dD => h _ _ _ _ _ _ (H'.le (by omega)) hx dD)
     · refine jV (m := m) (n := (t.ms.map cM).length) (by omega) (by simp; omega) (by simp; omega) hd λj1 d1 yg cA => ?_
       exact say j1 yg cA
     · refine jV (m := m) (n := (t.ms.map cM).length) (by omega) (by simp; omega) (by simp; omega) hd λj1 d1 yg cA => ?_
       exact say j1 yg cA)
def W8:∀e,e<=5->vz e
 | 0,h=>Xa 0 h (λe' he=>by omega)
 | e+1,h=>Xa (e+1) h (λe' he=>by rw[show e'=e by omega];exact W8 e (by omega))
end
end
section
open Go Go.ax QQ
def aV (n:Nat):List D:=[.int .i64 (n:Int)]
def gU:∀a:Nat,1<=(aV a).length/\dI bO (List.take 1 (List.drop 0 (aV a)))=some ((λb=>((b:Int),())) a):=(λa=>⟨by simp[aV],rfl⟩)
def gu (b:Bool):List D:=[.bool b]
def Ee:∀a:Bool,1<=(gu a).length/\dI [DS.bool] (List.take 1 (List.drop 0 (gu a)))=some ((λb=>(b,())) a):=(λa=>⟨by simp[gu],rfl⟩)
def yL (ps:List PT):Prop:=ps.length<=24/\∀p∈ps,p.ms.length<=10/\∀a∈p.ms,a.nx < ps.length
def HK:∀l:List Nat,aK (l.map aV)=l.map aV
 | []=>rfl
 | a::t=>by simp only[e9,aK,HK t];rfl
def count_set:∀(l:List Bool) (i:Nat),l[i]? = some false->(l.set i true).count true=l.count true+1
 | [],i,h=>by simp at h
 | a::t,0,h=>by
  simp at h;subst h;simp[V5]
 | a::t,i+1,h=>by
  simp at h;simp only[List.set_cons_succ,V5];rw[count_set t i (by simpa using h)];omega
def Nt {l:List Bool} {i:Nat} (h:i < l.length) {b:Bool}:bS (l.map gu) (0+i) 0 (.bool b)=(l.set i b).map gu:=by
 have:(l.map gu).getD (0+i) []=gu l[i]:=by simp[List.getD,h]
 unfold bS;rw[this,cQ,vx];rfl
section
variable {m:Nat} {Q:V->List (List C)->Prop}
def Vr (hm:1<=m) {a b:BB} {c:Bool} {r:RR} {e:BB} {K:bu.T->OR} (h:Wp (K (a==e||b==e,())) Q):Wp (Jc (T m) a b c r e K) Q:=by
 obtain⟨m,rfl⟩:=bT hm;refine bI aiG (aj (λh1=>aB ?_) (λh1=>aB ?_))
 ·rw[h1] at h;exact aH rfl h
 ·rw[h1] at h;exact aH rfl h
def UL (q:Nat) (met:List Bool) (hM:met.length<=100) {K:de.T->OR} (h:∀b (l:List Nat),(∀x∈l,x < met.length)->l.length<=met.length->Wp (K ((b,l.map aV),())) Q) :
  ∀(c i:Nat) (l:List Nat),met.length - i < c->i<=met.length->(∀x∈l,x < met.length)->l.length<=i->Wp (Hb (T q) q c (met.map gu) (l.map aV) (i:Int)) (J de K Q)
 | 0,i,l,hc,_,_,_=>by omega
 | c+1,i,l,hc,hi,hl,Z8=>by
  refine aG anM (aj (λh1=>?_) (λh1=>?_))
  ·have af:i < met.length:=bW h1;have hw:=wI i;refine nX Ee rfl (gE af) (aj (λh2=>?_) (λh2=>?_))
   ·refine az (gW (by simp;omega) (by omega)) ?_;rw[hw,dZ];have:=UL q met hM h c (i+1) (l++[i]) (by omega) (by omega) (by intro x hx;rw[dk] at hx;rcases hx with hx | hx;exact hl x hx;simp at hx;omega) (by simp;omega);rw[eF] at this;exact this
   ·rw[hw];exact UL q met hM h c (i+1) l (by omega) (by omega) hl (by omega)
  ·refine az (by simp) ?_;rw[dZ,HK];exact aB (aH rfl (h false l hl (by omega)))
def UK (q:Nat) (met:List Bool) (hM:met.length<=100) {K:de.T->OR} (h:∀b (l:List Nat),(∀x∈l,x < met.length)->l.length<=met.length->Wp (K ((b,l.map aV),())) Q) :
  ∀(c i:Nat),c<=q->met.length - i < c->i<=met.length->Wp (Ha (T q) q c (met.map gu) true [] (i:Int)) (J de K Q)
 | 0,i,_,hc,_=>by omega
 | c+1,i,hq,hc,hi=>by
  refine aG anL (aj (λh1=>?_) (λh1=>?_))
  ·have af:i < met.length:=bW h1;have hw:=wI i;refine nX Ee rfl (gE af) (aj (λh2=>?_) (λh2=>?_))
   ·refine az rfl ?_;rw[hw];exact UL q met hM h c (i+1) [i] (by omega) (by omega) (by intro x hx;simp at hx;omega) (by simp)
   ·rw[hw];exact UK q met hM h c (i+1) (by omega) (by omega) (by omega)
  ·exact aB (aH rfl (h true [] (by intro x hx;cases hx) (by simp)))
def UM (q:Nat) (hq:100<=q) {ps:List PT} (hP:yL ps) (role:BB) (a1:aq dS) (c1:Nat) (i:Nat) {p:PT} (hp:p∈ps)
  (hZ:∀(met:List Bool) (todo:List Nat),met.length=ps.length->todo.length=met.count true->(∀x∈todo,x < ps.length)->i < todo.length->Wp (DE (T q) q c1 role a1 (met.map gu) (todo.map aV) ((i+1:Nat):Int)) Q) :
  ∀(c j:Nat) (met:List Bool) (todo:List Nat),p.ms.length - j < c->j<=p.ms.length->met.length=ps.length->todo.length=met.count true->(∀x∈todo,x < ps.length)->i < todo.length->
   Wp (Hc (T q) q c1 c role a1 (met.map gu) (todo.map aV) (i:Int) (p.fr,p.to,(p.t,p.ms.map cM),()) (j:Int)) Q
 | 0,j,met,todo,hc,_,_,_,_,_=>by omega
 | c+1,j,met,todo,hc,hj,h1,h2,h3,h4=>by
  have cz:=(hP.2 p hp).1;have aU:met.count true<=met.length:=IL;have cG:=hP.1;have Kr:=wI i;refine aG anQ (aj (λg1=>?_) (λg1=>?_))
  ·have af:j < p.ms.length:=bW g1;refine Vr (m:=q) (by omega) (aj (λg2=>?_) (λg2=>?_))
   ·obtain⟨r,hr⟩:=bl 1 q;have e1:Lx (T q) q c1 c q=Lx (T q) q c1 c (r+1):=by rw[<-hr]
    have hg:p.ms[j]? = some p.ms[j]:=gE af;have C4:=(hP.2 p hp).2 _ (bU af);have jJ:p.ms[j].nx < met.length:=by omega
    have hwj:=wI j;rw[e1];refine aG anR ?_;refine aS Ed rfl hg ?_;refine nX Ee rfl (gE jJ) (aj (λg3=>?_) (λg3=>?_))
    ·have ya:met[p.ms[j].nx]? = some false:=by
      rw[gE jJ];have:met[p.ms[j].nx]=false:=by simpa using g3
      rw[this]
     refine aS Ed rfl hg ?_;refine iA rfl (az (aM (by simpa using jJ)) (eg (b:=gu false) (by rw[cQ,bQ,ya];rfl) (az rfl (gi (v:=(false,())) rfl ?_))));refine aS Ed rfl hg (az (gW (by simp;omega) (by omega)) ?_);rw[Nt jJ,dZ,hwj];have eJ:=count_set met _ ya;have:=UM q hq hP role a1 c1 i hp hZ c (j+1) (met.set p.ms[j].nx true) (todo++[p.ms[j].nx]) (by omega) (by omega) (by simpa using h1) (by rw[eJ];simp;omega)
      (by intro x hx;rw[dk] at hx;rcases hx with hx | hx;exact h3 x hx;simp at hx;omega) (by simp;omega)
     rw[eF] at this;exact this
    ·rw[hwj];exact UM q hq hP role a1 c1 i hp hZ c (j+1) met todo (by omega) (by omega) h1 h2 h3 h4
   ·rw[Kr];exact hZ met todo h1 h2 h3 h4
  ·rw[Kr];exact hZ met todo h1 h2 h3 h4
def aex (q:Nat) (hq:100<=q) {ps:List PT} (hP:yL ps) (role:BB) (nm:BB) (rs:Bool×RR) (pb:Bool) {K:de.T->OR} (h:∀b (l:List Nat),(∀x∈l,x < ps.length)->l.length<=ps.length->Wp (K ((b,l.map aV),())) Q) :
  ∀(c i:Nat) (met:List Bool) (todo:List Nat),ps.length - i < c->i<=todo.length->met.length=ps.length->todo.length=met.count true->(∀x∈todo,x < ps.length)->
   Wp (DE (T q) q c role (nm,rs,(pb,ps.map cP),()) (met.map gu) (todo.map aV) (i:Int)) (J de K Q)
 | 0,i,met,todo,hc,_,_,_,_=>by omega
 | c+1,i,met,todo,hc,hi,h1,h2,h3=>by
  have aU:met.count true<=met.length:=IL;have cG:=hP.1;refine aG anO (aj (λg1=>?_) (λg1=>?_))
  ·have af:i < todo.length:=bW g1;have hx:=h3 _ (bU af);refine nX gU rfl (gE af) ?_;refine aS HR rfl (gE hx) ?_;have hp:=(hP.2 _ (bU hx)).1;exact UM q hq hP role _ c i (bU hx) (λmet todo g1 g2 g3 g4=>aex q hq hP role nm rs pb h c (i+1) met todo (by omega) (by omega) g1 g2 g3) q 0 met todo (by omega) (by omega) h1 h2 h3 af
  ·have:=UK q met (by omega) (by rw[h1];exact h) q 0 (by omega) (by omega) (by omega);exact this
def aez (q:Nat) (hq:100<=q) {ps:List PT} (hP:yL ps) (role:BB) (nm:BB) (rs:Bool×RR) (pb fb:Bool) (fr:List Nat) (hf:fr.length<=50) {K:de.T->OR} (h:∀b (l:List Nat),(∀x∈l,x < ps.length)->l.length<=ps.length->Wp (K ((b,l.map aV),())) Q) :
  ∀(c i:Nat) (met:List Bool) (todo:List Nat),fr.length - i < c->i<=fr.length->met.length=ps.length->todo.length=met.count true->(∀x∈todo,x < ps.length)->
   Wp (SL (T q) q c role fb (fr.map aV) (nm,rs,(pb,ps.map cP),()) (met.map gu) (todo.map aV) (i:Int)) (J de K Q)
 | 0,i,met,todo,hc,_,_,_,_=>by omega
 | c+1,i,met,todo,hc,hi,h1,h2,h3=>by
  have aU:met.count true<=met.length:=IL;have cG:=hP.1;obtain⟨r,hr⟩:=bl 1 q;refine aG anT (aj (λg1=>?_) (λg1=>?_))
  ·have af:i < fr.length:=bW g1;have hw:=wI i;have hg:fr[i]? = some fr[i]:=gE af;have e1:tf (T q) q c q=tf (T q) q c (r+1):=by rw[<-hr]
   have en:∀(met:List Bool) (todo:List Nat),met.length=ps.length->todo.length=met.count true->(∀x∈todo,x < ps.length)->Wp (tf (T q) q c q role fb (fr.map aV) (nm,rs,(pb,ps.map cP),()) (met.map gu) (todo.map aV) (i:Int)) (J de K Q):=by
    intro met todo k1 k2 k3;rw[e1];refine aG aa6 ?_;rw[hw];exact aez q hq hP role nm rs pb fb fr hf h c (i+1) met todo (by omega) (by omega) k1 k2 k3
   refine aS gU rfl hg (aj (λg2=>?_) (λg2=>?_))
   ·refine aS gU rfl hg (aj (λg3=>?_) (λg3=>?_))
    ·have jJ:fr[i] < met.length:=bW g3;refine aS gU rfl hg ?_;refine nX Ee rfl (gE jJ) (aj (λg4=>?_) (λg4=>?_))
     ·have ya:met[fr[i]]? = some false:=by
       rw[gE jJ];have:met[fr[i]]=false:=by simpa using g4
       rw[this]
      refine aS gU rfl hg ?_;refine iA rfl (az (aM (by simpa using jJ)) (eg (b:=gu false) (by rw[cQ,bQ,ya];rfl) (az rfl (gi (v:=(false,())) rfl ?_))));refine aS gU rfl hg (az (gW (by simp;omega) (by omega)) ?_);rw[Nt jJ,dZ];have eJ:=count_set met _ ya;have:=en (met.set fr[i] true) (todo++[fr[i]]) (by simpa using h1) (by rw[eJ];simp;omega) (by intro x hx;rw[dk] at hx;rcases hx with hx | hx;exact h3 x hx;simp at hx;omega);rw[eF] at this;exact this
     ·exact en met todo h1 h2 h3
    ·exact en met todo h1 h2 h3
   ·exact en met todo h1 h2 h3
  ·exact aex q hq hP role nm rs pb h q 0 met todo (by omega) (by omega) h1 h2 h3
def aey (q:Nat) (hq:100<=q) {ps:List PT} (hP:yL ps) (role:BB) (nm:BB) (rs:Bool×RR) (pb fb:Bool) (fr:List Nat) (hf:fr.length<=50) (met:List Bool) (h1:met.length=ps.length) (h2:met.count true=0) {K:de.T->OR} (h:∀b (l:List Nat),(∀x∈l,x < ps.length)->l.length<=ps.length->Wp (K ((b,l.map aV),())) Q) :
  ∀(c i:Nat),c<=q->fr.length - i < c->i<=fr.length->
   Wp (Ly (T q) q c role fb (fr.map aV) (nm,rs,(pb,ps.map cP),()) (met.map gu) true [] (i:Int)) (J de K Q)
 | 0,i,_,hc,_=>by omega
 | c+1,i,FU,hc,hi=>by
  have cG:=hP.1;obtain⟨r,hr⟩:=bl 1 q;refine aG anS (aj (λg1=>?_) (λg1=>?_))
  ·have af:i < fr.length:=bW g1;have hw:=wI i;have hg:fr[i]? = some fr[i]:=gE af;have e1:tf (T q) q c q=tf (T q) q c (r+1):=by rw[<-hr]
   have e2:AL (T q) q c q=AL (T q) q c (r+1):=by rw[<-hr]
   have en:Wp (AL (T q) q c q role fb (fr.map aV) (nm,rs,(pb,ps.map cP),()) (met.map gu) true [] (i:Int)) (J de K Q):=by
    rw[e2];refine aG anU ?_;rw[hw];exact aey q hq hP role nm rs pb fb fr hf met h1 h2 h c (i+1) (by omega) (by omega) (by omega)
   refine aS gU rfl hg (aj (λg2=>?_) (λg2=>en));refine aS gU rfl hg (aj (λg3=>?_) (λg3=>en));have jJ:fr[i] < met.length:=bW g3;refine aS gU rfl hg ?_;refine nX Ee rfl (gE jJ) (aj (λg4=>?_) (λg4=>en));have ya:met[fr[i]]? = some false:=by
    rw[gE jJ];have:met[fr[i]]=false:=by simpa using g4
    rw[this]
   refine aS gU rfl hg ?_;refine iA rfl (az (aM (by simpa using jJ)) (eg (b:=gu false) (by rw[cQ,bQ,ya];rfl) (az rfl (gi (v:=(false,())) rfl ?_))));refine aS gU rfl hg (az rfl ?_);rw[Nt jJ,e1];refine aG aa6 ?_;rw[hw];have eJ:=count_set met _ ya;exact aez q hq hP role nm rs pb fb fr hf h c (i+1) (met.set fr[i] true) [fr[i]] (by omega) (by omega) (by simpa using h1) (by rw[eJ,h2];simp) (by intro x hx;simp at hx;omega)
  ·have e3:Lw (T q) q q=Lw (T q) q (r+1):=by rw[<-hr]
   rw[e3];refine aG anN (eW rfl ?_);exact UK q met (by omega) (by rw[h1];exact h) q 0 (by omega) (by omega) (by omega)
def afB (hm:110<=m) {ps:List PT} (hP:yL ps) {nm role:BB} {b1 b2 b3:Bool} {rs:RR} {fr:List Nat} (hf:fr.length<=50) {K:de.T->OR} (h:∀b (l:List Nat),(∀x∈l,x < ps.length)->l.length<=ps.length->Wp (K ((b,l.map aV),())) Q) :
  Wp (Pd (T m) nm b1 rs b2 (ps.map cP) role b3 (fr.map aV) K) Q:=by
 obtain⟨m,rfl⟩:=bT hm;have cG:=hP.1;refine bI aiD (az ?_ ?_)
 ·simp;omega
 ·have e1:List.replicate (ps.map cP).length [D.bool false]=(List.replicate ps.length false).map gu:=by simp[gu]
  rw[e1];exact aey m (by omega) hP role nm (b1,rs) b2 b3 fr hf _ (by simp) (by simp[List.count_replicate]) h m 0 (by omega) (by omega) (by omega)
end
end
section
open Go Go.ax QQ
def je (role:BB) (ps:List PT) (x:Nat):Prop:=∃p,ps[x]? = some p/\(p.fr==role||p.to==role)=true
def aE (s:BB):List D:=[.str s]
def T9:∀a:PR,0+3<=(cJ a).length/\dI dS (List.take 3 (List.drop 0 (cJ a)))=some ((λp=>(p.nm,(p.rt,p.rs.map aE),(p.pt,p.iw),())) a):=(λa=>⟨by simp[cJ],rfl⟩)
def u7:∀a:BB,1<=(aE a).length/\dI [DS.str] (List.take 1 (List.drop 0 (aE a)))=some ((λa=>(a,())) a):=(λa=>⟨by simp[aE],rfl⟩)
def je.lt {role:BB} {ps:List PT} {x:Nat} (h:je role ps x):x < ps.length:=by
 obtain⟨p,h1,_⟩:=h;exact(cd.1 h1).1
def pR:∀l:List BB,aK (l.map aE)=l.map aE
 | []=>rfl
 | a::t=>by simp only[e9,aK,pR t];rfl
def apI (l:List BB):ni (l.map aE)=true:=by
 cases l with
 | nil=>rfl
 | cons a t=>simp[ni,tV,yv,aE]
def EC (l:List BB) (b:Bool):fS 16 (l.map aE) b=true:=by
 unfold fS;rw[apI];rfl
section
variable {m:Nat} {Q:V->List (List C)->Prop}
def Td (q:Nat) (hq:100<=q) {ps:List PT} (role nm:BB) (rs:Bool×RR) (pb lb:Bool) (l:List Nat) (hl:∀x∈l,x < ps.length) (ov:l.length<=50) (b1:Bool) (r1:RR) {K:de.T->OR}
  (h:∀b (l':List Nat),(∀x∈l',je role ps x)->l'.length<=l.length->Wp (K ((b,l'.map aV),())) Q) :
  ∀(c i:Nat) (o:List Nat),l.length - i < c->i<=l.length->(∀x∈o,je role ps x)->o.length<=i->
   Wp (G' (T q) q c role lb (l.map aV) (nm,(.im b1,r1),(.im pb,ps.map cP),()) (o.map aV) (i:Int)) (J de K Q)
 | 0,i,o,hc,_,_,_=>by omega
 | c+1,i,o,hc,hi,ho,hoi=>by
  refine aG anJ (aj (λg1=>eL ?_) (λg1=>?_))
  ·have af:i < l.length:=bW g1;have hw:=wI i;have hg:l[i]? = some l[i]:=gE af;have hx:=hl _ (bU af);have F7:ps[l[i]]? = some ps[l[i]]:=gE hx;refine aS gU rfl hg ?_;refine aS HR rfl F7 ?_;refine Vr (m:=q) (by omega) (aj (λg2=>?_) (λg2=>?_))
   ·refine aS gU rfl hg (az (gW (by simp;omega) (by omega)) ?_);rw[hw,dZ];have:=Td q hq role nm rs pb lb l hl ov b1 r1 h c (i+1) (o++[l[i]]) (by omega) (by omega)
     (by intro x hx;rw[dk] at hx;rcases hx with hx | hx;exact ho x hx;simp at hx;subst hx;exact⟨_,F7,g2⟩) (by simp;omega)
    rw[eF] at this;exact this
   ·rw[hw];exact Td q hq role nm rs pb lb l hl ov b1 r1 h c (i+1) o (by omega) (by omega) ho (by omega)
  ·refine az (by simp) ?_;rw[dZ,HK];exact aB (aH rfl (h false o ho (by omega)))
def ab0 (q:Nat) (hq:100<=q) {ps:List PT} (role nm:BB) (pb lb:Bool) (l:List Nat) (hl:∀x∈l,x < ps.length) (ov:l.length<=50) (b1:Bool) (r1:RR) {K:de.T->OR}
  (h:∀b (l':List Nat),(∀x∈l',je role ps x)->l'.length<=l.length->Wp (K ((b,l'.map aV),())) Q) :
  ∀(c i:Nat),c<=q->l.length - i < c->i<=l.length->
   Wp (Lu (T q) q c role lb (l.map aV) (nm,(.im b1,r1),(.im pb,ps.map cP),()) true [] (i:Int)) (J de K Q)
 | 0,i,_,hc,_=>by omega
 | c+1,i,FU,hc,hi=>by
  refine aG anI (aj (λg1=>eL ?_) (λg1=>?_))
  ·have af:i < l.length:=bW g1;have hw:=wI i;have hg:l[i]? = some l[i]:=gE af;have hx:=hl _ (bU af);have F7:ps[l[i]]? = some ps[l[i]]:=gE hx;refine aS gU rfl hg ?_;refine aS HR rfl F7 ?_;refine Vr (m:=q) (by omega) (aj (λg2=>?_) (λg2=>?_))
   ·refine aS gU rfl hg (az rfl ?_);rw[hw];exact Td q hq role nm (b1,r1) pb lb l hl ov b1 r1 h c (i+1) [l[i]] (by omega) (by omega) (by intro x hx;simp at hx;subst hx;exact⟨_,F7,g2⟩) (by simp)
   ·rw[hw];exact ab0 q hq role nm pb lb l hl ov b1 r1 h c (i+1) (by omega) (by omega) (by omega)
  ·exact aB (aH rfl (h true [] (by intro x hx;cases hx) (by simp)))
def afq (hm:110<=m) {ps:List PT} {nm role:BB} {b1 b2 b3:Bool} {rs:RR} {l:List Nat} (hl:∀x∈l,x < ps.length) (ov:l.length<=50) {K:de.T->OR}
  (h:∀b (l':List Nat),(∀x∈l',je role ps x)->l'.length<=l.length->Wp (K ((b,l'.map aV),())) Q) :
  Wp (Pe (T m) nm b1 rs b2 (ps.map cP) role b3 (l.map aV) K) Q:=by
 obtain⟨m,rfl⟩:=bT hm;exact bI aiB (ab0 m (by omega) role nm b2 b3 l hl ov b1 rs h m 0 (by omega) (by omega) (by omega))
def asU (hm:120<=m) {ps:List PT} (hP:yL ps) {nm role:BB} {b1 b2:Bool} {rs:RR} {x:Nat} {K:bu.T->OR} (h:∀b,Wp (K (b,())) Q) :
  Wp (Xv (T m) nm b1 rs b2 (ps.map cP) role (x:Int) K) Q:=by
 obtain⟨m,rfl⟩:=bT hm;have cG:=hP.1;refine bI aiA ?_;refine afB (m:=m) (by omega) hP (fr:=[x]) (by simp) λb l hl nK=>?_
 refine afq (m:=m) (by omega) hl (by omega) λb' l' lQ atI=>aB ?_
 exact aH rfl (h _)
def ad3 (q:Nat) (a b:List Nat) (hl:a.length=b.length) (ov:a.length<=50) (x y:Bool) {K:bu.T->OR} (h:∀b,Wp (K (b,())) Q):∀(c i:Nat),a.length - i < c->i<=a.length->
  Wp (Lv (T q) q c x (a.map aV) y (b.map aV) (i:Int)) (J bu K Q)
 | 0,i,hc,_=>by omega
 | c+1,i,hc,hi=>by
  refine aG anK (aj (λg1=>?_) (λg1=>aB (aH rfl (h true))));have af:i < a.length:=bW g1;refine aS gU rfl (gE af) ?_;refine aS gU rfl (gE (show i < b.length by omega)) (aj (λg2=>aB (aH rfl (h false))) (λg2=>?_));rw[wI i];exact ad3 q a b hl ov x y h c (i+1) (by omega) (by omega)
def as5 (hm:110<=m) {a b:List Nat} (ov:a.length<=50) {x y:Bool} {K:bu.T->OR} (h:∀b,Wp (K (b,())) Q):Wp (Xw (T m) x (a.map aV) y (b.map aV) K) Q:=by
 obtain⟨m,rfl⟩:=bT hm;refine bI aiC (aj (λg1=>aB (aH rfl (h false))) (λg1=>?_));have hl:a.length=b.length:=by
  have g2:(ae (a.map aV).length != ae (b.map aV).length)=false:=g1;rw[cm,cm,cX,cX] at g2;have:=VN.1 g2;omega
 exact ad3 m a b hl ov x y h m 0 (by omega) (by omega)
def Zb (q:Nat) (b:Bool) (l:List AM) (ov:l.length<=50) (s:BB) {K:iL.T->OR} (h1:Wp (K (-1,())) Q) (h2:∀i:Nat,i < l.length->Wp (K ((i:Int),())) Q):∀(c i:Nat),l.length - i < c->i<=l.length->
  Wp (Ln (T q) q c b (l.map cM) s (i:Int)) (J iL K Q)
 | 0,i,hc,_=>by omega
 | c+1,i,hc,hi=>by
  refine aG anv (aj (λg1=>?_) (λg1=>aB (aH rfl h1)));have af:i < l.length:=bW g1;refine aS Uc rfl (gE af) (aj (λg2=>aB (aH rfl (h2 i af))) (λg2=>?_));rw[wI i];exact Zb q b l ov s h1 h2 c (i+1) (by omega) (by omega)
def afm (hm:110<=m) {b:Bool} {l:List AM} (ov:l.length<=50) {s:BB} {K:iL.T->OR} (h1:Wp (K (-1,())) Q) (h2:∀i:Nat,i < l.length->Wp (K ((i:Int),())) Q):Wp (Pf (T m) b (l.map cM) s K) Q:=by
 obtain⟨m,rfl⟩:=bT hm;exact bI aiw (Zb m b l ov s h1 h2 m 0 (by omega) (by omega))
def E3 (n:Nat) (K:de.T->OR) (Q:V->List (List C)->Prop):Prop:=∀b (l':List BB),l'≠[]->l'.length<=n->Wp (K ((b,l'.map aE),())) Q
def T0 (q:Nat) (b:Bool) (l:List BB) (h5:l.length<=500) (s:BB) {K:de.T->OR} (h:E3 (l.length+1) K Q) {i:Nat} (hi:i<=l.length) :
  Wp (Lb (T (q+1)) (q+1) (q+1) b (l.map aE) s (i:Int)) (J de K Q):=by
 have ht:List.take (i - 0) (List.drop 0 (l.map aE))=(l.take i).map aE:=by simp
 have hd:List.take ((l.map aE).length - i) (List.drop i (l.map aE))=(l.drop i).map aE:=by
  rw[V9,zn (by simp)]
 refine aG am' (iA rfl (az (aM (by simpa using hi)) (az ?_ (aj (λg=>?_) (λg=>?_)))))
 ·rw[ht,EC];simp;omega
 ·refine aG am8 (az rfl (iA rfl (az (by simp;omega) (az ?_ (aB ?_)))))
  ·rw[hd,EC];simp;omega
  ·rw[hd];have e:([[D.str []]].set 0 [D.str s]++(l.drop i).map aE)=(s::l.drop i).map aE:=rfl;have e2:aK (whole ([[D.str []]].set 0 [D.str s])++(l.drop i).map aE)=(s::l.drop i).map aE:=by rw[dZ,e,pR]
   rw[e2];exact aH rfl (h false (s::l.drop i) (by simp) (by simp))
 ·refine aG am9 (az (gW (by simp;omega) (by omega)) (iA rfl (az (by simp;omega) (az ?_ (aB ?_)))))
  ·rw[hd,EC,dZ];simp;omega
  ·rw[hd,ht];have e2:aK ((l.take i).map aE++whole ([[D.str []]].set 0 [D.str s])++(l.drop i).map aE)=(l.take i++[s]++l.drop i).map aE:=by
    rw[dZ,show ([[D.str []]].set 0 [D.str s])=[s].map aE from rfl,<-eF,<-eF,pR]
   rw[e2];exact aH rfl (h false _ (by simp) (by simp;omega))
def adb (q:Nat) (b:Bool) (l:List BB) (h5:l.length<=500) (s:BB) {K:de.T->OR} (h:E3 (l.length+1) K Q):∀(c i:Nat),l.length - i < c->i<=l.length->
  Wp (Ld (T (q+1)) (q+1) c b (l.map aE) s (i:Int)) (J de K Q)
 | 0,i,hc,_=>by omega
 | c+1,i,hc,hi=>by
  refine aG ana (aj (λg1=>?_) (λg1=>?_))
  ·have af:i < l.length:=bW g1;refine aS u7 rfl (gE af) (aj (λg2=>?_) (λg2=>?_))
   ·rw[wI i];exact adb q b l h5 s h c (i+1) (by omega) (by omega)
   ·refine aG aa3 (aj (λg3=>?_) (λg3=>T0 q b l h5 s h (by omega)));refine aS u7 rfl (gE af) (aj (λg4=>?_) (λg4=>T0 q b l h5 s h (by omega)));exact aB (aH rfl (h b l (by intro h0;rw[h0] at af;simp at af) (by omega)))
  ·refine aG aa3 (aj (λg3=>?_) (λg3=>T0 q b l h5 s h (by omega)));rw[g1] at g3;cases g3
def afw (hm:510<=m) {b:Bool} {l:List BB} (h5:l.length<=500) {s:BB} {K:de.T->OR} (h:E3 (l.length+1) K Q):Wp (c236 (T m) b (l.map aE) s K) Q:=by
 obtain⟨m,rfl⟩:=bl 2 m;exact bI aip (adb m b l h5 s h (m+1) 0 (by omega) (by omega))
def Wz (q:Nat) (hq:510<=q) (a0:Bool) (l:List BB) (h4:l.length<=400) {K:de.T->OR} (h:E3 (l.length+1) K Q):∀(c i:Nat) (b:Bool) (o:List BB),l.length - i < c->i<=l.length->o≠[]->o.length<=i+1->
  Wp (La (T q) q c a0 (l.map aE) b (o.map aE) (i:Int)) (J de K Q)
 | 0,i,b,o,hc,_,_,_=>by omega
 | c+1,i,b,o,hc,hi,ho,hoi=>by
  refine aG am7 (aj (λg1=>?_) (λg1=>aB (aH rfl (h b o ho (by omega)))));have af:i < l.length:=bW g1;refine aS u7 rfl (gE af) ?_;refine afw (m:=q) (by omega) (by omega) λb' o' qw lQ=>?_
  rw[wI i];exact Wz q hq a0 l h4 h c (i+1) b' o' (by omega) (by omega) qw (by omega)
def asJ (hm:520<=m) {b:Bool} {l:List BB} (h4:l.length<=400) {s:BB} {K:de.T->OR} (h:E3 (l.length+1) K Q):Wp (c218 (T m) b (l.map aE) s K) Q:=by
 obtain⟨m,rfl⟩:=bT hm;refine bI aim ?_;obtain⟨r,hr⟩:=bl 1 m;have e1:K9 (T m) m m=K9 (T m) m (r+1):=by rw[<-hr]
 rw[e1];refine aG am6 (aj (λg1=>?_) (λg1=>az rfl (aB (aH rfl (h false [s] (by simp) (by simp))))));have af:0 < l.length:=bW g1;refine aS u7 (i:=0) rfl (gE af) (az rfl ?_);refine afw (m:=m) (by omega) (l:=[s]) (by simp) λb' o' qw lQ=>?_
 exact Wz m (by omega) b l h4 h r 1 b' o' (by omega) (by omega) qw (by simpa using lQ)
end
end
section
open Go Go.ax QQ
def kL (x:Bool×List Nat):List D:=[.sl (.im x.1) 1 (x.2.map aV)]
structure PK where
 nm:BB
 rb:Bool
 rs:RR
 pb:Bool
 ps:List PT
 role:BB
def WB (k:PK) (t:Tag) (bf:List (Bool×List Nat)):aq bw:=(k.nm,(.im k.rb,k.rs),(.im k.pb,k.ps.map cP),k.role,(t,bf.map kL),())
structure PH (k:PK):Prop where
 iw:yL k.ps
 agk:∀x,je k.role k.ps x->∃p,k.ps[x]? = some p/\p.ms≠[]
structure SH (k:PK) (t:Tag) (bf:List (Bool×List Nat)):Prop where
 no:t = .own\/(t = .im true/\bf=[])
 ne:t = .own->bf≠[]
 ln:bf.length<=40
 ok:∀x∈bf,(∀y∈x.2,je k.role k.ps y)/\x.2.length<=24
section
variable {m:Nat} {Q:V->List (List C)->Prop} {k:PK} {t:Tag} {bf:List (Bool×List Nat)}
def Rd (q:Nat) (hq:100<=q) (hk:PH k) (b:Bool) (l:List Nat) (hl:∀y∈l,je k.role k.ps y) (cG:l.length<=24) {x2:aq bw} {K:Em.T->OR}
  (h:∀kd pr err,(err=0->l≠[]->kd=1\/kd=2)->Wp (K ((kd,pr,err,()),WB k t bf,())) Q):∀(c i:Nat) (kd:Int) (pr:BB),l.length - i < c->i<=l.length->(kd=1\/kd=2)->
   Wp (Dy (T q) q x2 c b (l.map aV) (WB k t bf) (i:Int) kd pr) (J Em K Q)
 | 0,i,kd,pr,hc,_,_=>by omega
 | c+1,i,kd,pr,hc,hi,oy=>by
  refine aG anx (aj (λg1=>eL ?_) (λg1=>aB (aH rfl (h kd pr 0 (λ_ _=>oy)))));have af:i < l.length:=bW g1;have hw:=wI i;obtain⟨p,hp,_⟩:=hl _ (bU af);obtain⟨r,hr⟩:=bl 1 q;have e1:DA (T q) q x2 c q=DA (T q) q x2 c (r+1):=by rw[<-hr]
  have rest:∀(a6:aq kE) (rC:Int) (yP:BB),(rC=1\/rC=2)->Wp (DA (T q) q x2 c q b (l.map aV) (WB k t bf) (i:Int) kd pr a6 rC yP) (J Em K Q):=by
   intro a6 rC yP Ka;rw[e1];refine aG anA (aj (λg2=>aj (λg3=>?_) (λg3=>aj (λg4=>?_) (λg4=>?_))) (λg2=>?_))
   ·exact aB (aH rfl (h 0 [] 802 (λh0=>by cases h0)))
   ·exact aB (aH rfl (h 0 [] 802 (λh0=>by cases h0)))
   ·rw[hw];exact Rd q hq hk b l hl cG h c (i+1) rC yP (by omega) (by omega) Ka
   ·rw[hw];exact Rd q hq hk b l hl cG h c (i+1) rC yP (by omega) (by omega) Ka
  refine aS gU rfl (gE af) ?_;refine aS HR rfl hp (aj (λg2=>?_) (λg2=>?_))
  ·exact rest _ 2 _ (.inr rfl)
  ·exact rest _ 1 _ (.inl rfl)
def asP (hm:110<=m) (hk:PH k) {b:Bool} {l:List Nat} (hl:∀y∈l,je k.role k.ps y) (cG:l.length<=24) {K:Em.T->OR}
  (h:∀kd pr err,(err=0->l≠[]->kd=1\/kd=2)->Wp (K ((kd,pr,err,()),WB k t bf,())) Q):Wp (c193 (T m) b (l.map aV) (WB k t bf) K) Q:=by
 obtain⟨m,rfl⟩:=bT hm;refine bI aix ?_;obtain⟨r,hr⟩:=bl 1 m;have e1:∀x,Lo (T m) m x m=Lo (T m) m x (r+1):=by intro x;rw[<-hr]
 rw[e1];refine aG anw (aj (λg1=>eL ?_) (λg1=>aB (aH rfl (h 0 [] 0 (λ_ h0=>?_)))))
 ·have af:0 < l.length:=bW g1;obtain⟨p,hp,_⟩:=hl _ (bU af);have e2:∀x,Dz (T m) m x r m=Dz (T m) m x r (r+1):=by intro x;rw[<-hr]
  have rest:∀(x2:aq bw) (a6:aq kE) (rC:Int) (yP:BB),(rC=1\/rC=2)->Wp (Dz (T m) m x2 r m b (l.map aV) (WB k t bf) 0 [] 0 a6 rC yP) (J Em K Q):=by
   intro x2 a6 rC yP Ka;rw[e2];refine aG anz (eW rfl ?_);exact Rd m (by omega) hk b l hl cG h r 1 rC yP (by omega) (by omega) Ka
  refine aS gU (i:=0) rfl (gE af) ?_;refine aS HR rfl hp (aj (λg2=>?_) (λg2=>?_))
  ·exact rest _ _ 2 _ (.inr rfl)
  ·exact rest _ _ 1 _ (.inl rfl)
 ·have g2:¬ (0:Int) < ae (l.map aV).length:=lj g1;rw[cm,cX] at g2;cases l with
  | nil=>exact absurd rfl h0
  | cons=>simp at g2
def Ox (k:PK) (t:Tag) (bf:List (Bool×List Nat)) (l:List Nat) (K:Bc.T->OR) (Q:V->List (List C)->Prop):Prop:=
 ∀b (ls:List BB) al,(l≠[]->ls≠[])->ls.length<=300->Wp (K (((b,ls.map aE),al,()),WB k t bf,())) Q
def abm (q:Nat) (hk:PH k) (b:Bool) (l:List Nat) (hl:∀y∈l,je k.role k.ps y) (cG:l.length<=24) {x2:aq bw} (lb:Bool) (ls:List BB) (h0:l≠[]->ls≠[]) (h3:ls.length<=300) {K:Bc.T->OR} (h:Ox k t bf l K Q):∀(c i:Nat),l.length - i < c->i<=l.length->
  Wp (Lp (T q) q x2 c b (l.map aV) (WB k t bf) lb (ls.map aE) (i:Int)) (J Bc K Q)
 | 0,i,hc,_=>by omega
 | c+1,i,hc,hi=>by
  refine aG anB (aj (λg1=>eL ?_) (λg1=>aB (aH rfl (h lb ls true h0 h3))));have af:i < l.length:=bW g1;obtain⟨p,hp,_⟩:=hl _ (bU af);refine aS gU rfl (gE af) ?_;refine aS Nb rfl hp (aj (λg2=>aB (aH rfl (h lb ls false h0 h3))) (λg2=>?_));rw[wI i];exact abm q hk b l hl cG lb ls h0 h3 h c (i+1) (by omega) (by omega)
def abo (q:Nat) (hq:530<=q) (b:Bool) (l:List Nat) {x2:aq bw} (c1:Nat) (i:Nat) (cG:i<=24) (pb:Bool) (ms:List AM) (cz:ms.length<=10)
  (h:∀lb (ls:List BB),ls.length<=(i+1) * 10->(ms≠[]->ls≠[])->Wp (G9 (T q) q x2 c1 b (l.map aV) (WB k t bf) lb (ls.map aE) ((i+1:Nat):Int)) Q):∀(c j:Nat) (lb:Bool) (ls:List BB),ms.length - j < c->j<=ms.length->ls.length<=i * 10+j->(1<=j->ls≠[])->
  Wp (Lq (T q) q x2 c1 c b (l.map aV) (WB k t bf) lb (ls.map aE) (i:Int) pb (ms.map cM) (j:Int)) Q
 | 0,j,lb,ls,hc,_,_,_=>by omega
 | c+1,j,lb,ls,hc,hj,lR,aD=>by
  refine aG anD (aj (λg1=>?_) (λg1=>?_))
  ·have af:j < ms.length:=bW g1;refine aS Uc rfl (gE af) ?_;refine asJ (m:=q) (by omega) (by omega) λb' l' alh lQ=>?_
   rw[wI j];exact abo q hq b l c1 i cG pb ms cz h c (j+1) b' l' (by omega) (by omega) (by omega) (λ_=>alh)
  ·rw[wI i];have g2:¬ (j:Int) < ae (ms.map cM).length:=lj g1;rw[cm,cX] at g2;refine h lb ls (by omega) (λh0=>aD ?_);cases ms with
   | nil=>exact absurd rfl h0
   | cons=>simp at g2;omega
def abn (q:Nat) (hq:530<=q) (hk:PH k) (b:Bool) (l:List Nat) (hl:∀y∈l,je k.role k.ps y) (cG:l.length<=24) {x2:aq bw} {K:Bc.T->OR} (h:Ox k t bf l K Q):∀(c i:Nat) (lb:Bool) (ls:List BB),l.length - i < c->i<=l.length->ls.length<=i * 10->(1<=i->ls≠[])->
  Wp (G9 (T q) q x2 c b (l.map aV) (WB k t bf) lb (ls.map aE) (i:Int)) (J Bc K Q)
 | 0,i,lb,ls,hc,_,_,_=>by omega
 | c+1,i,lb,ls,hc,hi,lR,aD=>by
  refine aG anC (aj (λg1=>eL ?_) (λg1=>?_))
  ·have af:i < l.length:=bW g1;obtain⟨p,hp,alk⟩:=hk.agk _ (hl _ (bU af));have cz:=(hk.iw.2 p (ff hp)).1;refine aS gU rfl (gE af) ?_;refine aS Nb rfl hp ?_;exact abo q hq b l c i (by omega) p.t p.ms cz (λlb' SY g2 g3=>abn q hq hk b l hl cG h c (i+1) lb' SY (by omega) (by omega) g2 (λ_=>g3 alk)) q 0 lb ls (by omega) (by omega) (by omega) (λh0=>by omega)
  ·have g2:¬ (i:Int) < ae (l.map aV).length:=lj g1;rw[cm,cX] at g2;exact abm q hk b l hl cG lb ls (λh0=>aD (by cases l with | nil=>exact absurd rfl h0 | cons=>simp at g2;omega)) (by omega) h q 0 (by omega) (by omega)
def asR (hm:540<=m) (hk:PH k) {b:Bool} {l:List Nat} (hl:∀y∈l,je k.role k.ps y) (cG:l.length<=24) {K:Bc.T->OR} (h:Ox k t bf l K Q):Wp (c194 (T m) b (l.map aV) (WB k t bf) K) Q:=by
 obtain⟨m,rfl⟩:=bT hm;exact bI aiy (abn m (by omega) hk b l hl cG h m 0 true [] (by omega) (by omega) (by simp) (λh0=>by omega))
def Ou (k:PK) (t:Tag) (bf:List (Bool×List Nat)) (K:yZ.T->OR) (Q:V->List (List C)->Prop):Prop:=
 ∀kd nm b (to:List Nat) is,to.length<=24->Wp (K (((kd,nm,()),(b,to.map aV),is,()),WB k t bf,())) Q
def Pu (q:Nat) (hq:530<=q) (hk:PH k) (b:Bool) (l:List Nat) (hl:∀y∈l,je k.role k.ps y) (cG:l.length<=24) (s:BB) {x3:aq bw} (a4:aq jS) {K:yZ.T->OR} (h:Ou k t bf K Q):∀(c i:Nat) (a5:aq jS) (to:List Nat),l.length - i < c->i<=l.length->to.length<=i->
  Wp (G7 (T q) q x3 c b (l.map aV) s (WB k t bf) a4 a5 (to.map aV) (i:Int)) (J yZ K Q)
 | 0,i,a5,to,hc,_,_=>by omega
 | c+1,i,a5,to,hc,hi,RX=>by
  refine aG anr (aj (λg1=>eL ?_) (λg1=>?_))
  ·have af:i < l.length:=bW g1;have hw:=wI i;obtain⟨p,hp,_⟩:=hl _ (bU af);have cz:=(hk.iw.2 p (ff hp)).1;obtain⟨r,hr⟩:=bl 1 q;have e1:Dx (T q) q x3 c q=Dx (T q) q x3 c (r+1):=by rw[<-hr]
   have rest:∀j:Nat,j < p.ms.length->Wp (Dx (T q) q x3 c q b (l.map aV) s (WB k t bf) a4 a5 (to.map aV) (i:Int) p.t (p.ms.map cM) (j:Int)) (J yZ K Q):=by
    intro j hj;rw[e1];refine aG anu ?_;refine aS Na rfl (gE hj) ?_;refine aS Ed rfl (gE hj) (az (gW (by simp;omega) (by omega)) ?_);rw[hw,dZ];have:=Pu (x3:=x3) q hq hk b l hl cG s a4 h c (i+1) (p.ms[j].kd,p.ms[j].nm,()) (to++[p.ms[j].nx]) (by omega) (by omega) (by simp;omega);rw[eF] at this;exact this
   refine aS gU rfl (gE af) ?_;refine aS Nb rfl hp ?_;refine afm (m:=q) (by omega) (by omega) ?_ (λj hj=>?_)
   ·refine cF rfl ?_;rw[hw];exact Pu q hq hk b l hl cG s a4 h c (i+1) a5 to (by omega) (by omega) (by omega)
   ·refine eW (bm (show ¬ ((j:Nat):Int) < 0 by omega)) (aj (λg2=>?_) (λg2=>rest j hj));refine aS Na rfl (gE hj) (aj (λg3=>?_) (λg3=>rest j hj));exact aB (aH rfl (h a5.1 a5.2.1 true [] false (by simp)))
  ·refine az (by simp) ?_;rw[dZ,HK];exact aB (aH rfl (h a5.1 a5.2.1 false to true (by omega)))
def XQ (q:Nat) (hq:530<=q) (hk:PH k) (b:Bool) (l:List Nat) (hl:∀y∈l,je k.role k.ps y) (cG:l.length<=24) (s:BB) {x3:aq bw} (a4:aq jS) {K:yZ.T->OR} (h:Ou k t bf K Q):∀(c i:Nat) (a5:aq jS),c<=q->l.length - i < c->i<=l.length->
  Wp (Lm (T q) q x3 c b (l.map aV) s (WB k t bf) a4 a5 true [] (i:Int)) (J yZ K Q)
 | 0,i,a5,_,hc,_=>by omega
 | c+1,i,a5,FU,hc,hi=>by
  refine aG anq (aj (λg1=>eL ?_) (λg1=>aB (aH rfl (h a5.1 a5.2.1 true [] true (by simp)))));have af:i < l.length:=bW g1;have hw:=wI i;obtain⟨p,hp,_⟩:=hl _ (bU af);have cz:=(hk.iw.2 p (ff hp)).1;obtain⟨r,hr⟩:=bl 1 q;have e1:G8 (T q) q x3 c q=G8 (T q) q x3 c (r+1):=by rw[<-hr]
  refine aS gU rfl (gE af) ?_;refine aS Nb rfl hp ?_;refine afm (m:=q) (by omega) (by omega) ?_ (λj hj=>?_)
  ·refine cF rfl ?_;rw[hw];exact XQ q hq hk b l hl cG s a4 h c (i+1) a5 (by omega) (by omega) (by omega)
  ·refine eW (bm (show ¬ ((j:Nat):Int) < 0 by omega)) (eW rfl ?_);rw[e1];refine aG ant ?_;refine aS Na rfl (gE hj) ?_;refine aS Ed rfl (gE hj) (az rfl ?_);rw[hw];exact Pu q hq hk b l hl cG s a4 h c (i+1) (p.ms[j].kd,p.ms[j].nm,()) [p.ms[j].nx] (by omega) (by omega) (by simp)
def Vg (hm:540<=m) (hk:PH k) {b:Bool} {l:List Nat} (hl:∀y∈l,je k.role k.ps y) (cG:l.length<=24) {s:BB} {K:yZ.T->OR} (h:Ou k t bf K Q):Wp (Jb (T m) b (l.map aV) s (WB k t bf) K) Q:=by
 obtain⟨m,rfl⟩:=bT hm;exact bI aiv (XQ m (by omega) hk b l hl cG s _ h m 0 _ (by omega) (by omega) (by omega))
end
end
section
open Go Go.ax QQ
section
variable {m:Nat} {Q:V->List (List C)->Prop} {k:PK} {t:Tag} {bf:List (Bool×List Nat)}
def E0 (k:PK) (t:Tag) (bf:List (Bool×List Nat)) (K:oU.T->OR) (Q:V->List (List C)->Prop):Prop:=
 (∀err,err≠0->Wp (K ((0,err,()),WB k t bf,())) Q)/\∀t' jz (i:Nat),SH k t' jz->(∃x,jz=bf++x)->i < jz.length->Wp (K (((i:Int),0,()),WB k t' jz,())) Q
def SH.app (h:SH k t bf) {b:Bool} {l:List Nat} (hl:∀y∈l,je k.role k.ps y) (cG:l.length<=24) (hn:bf.length≠40):SH k .own (bf++[(b,l)]):=
 ⟨.inl rfl, λ_ => by simp, by have := h.ln; simp; omega, by
   intro x hx
   rw[dk] at hx
   rcases hx with hx | hx
   · exact h.ok x hx
   · simp at hx; subst hx; exact⟨hl, cG⟩⟩
def apv (q r:Nat) (hS:SH k .own bf) (aD:bf≠[]) {x2:aq bw} {K:oU.T->OR} (h:∀i:Nat,i < bf.length->Wp (K (((i:Int),0,()),WB k .own bf,())) Q) :
  Wp (DB (T q) q x2 (r+1) (WB k .own bf)) (J oU K Q):=by
 refine aG anE (ij (aB ?_));have hp:0 < bf.length:=by cases bf with | nil=>exact absurd rfl aD | cons=>simp
 have CH:=hS.ln;have hw:ak (ae (bf.map kL).length - 1)=((bf.length - 1:Nat):Int):=iP (by rw[cm];simp;omega) (by omega);refine aH (x:=((((bf.length - 1:Nat):Int),0,()),WB k .own bf,())) ?_ (h (bf.length - 1) (by omega));show jH oU (.ao [.one (iC (ak (ae (bf.map kL).length - 1))),_],_)=_;rw[hw];rfl
def abI (q:Nat) (hq:130<=q) (hS:SH k t bf) (b:Bool) (l:List Nat) (hl:∀y∈l,je k.role k.ps y) (cG:l.length<=24) {x2:aq bw} {K:oU.T->OR} (h:E0 k t bf K Q) (hn:bf.length≠40) :
  Wp (DB (T q) q x2 q (WB k .own (bf++[(b,l)]))) (J oU K Q):=by
 obtain⟨r,hr⟩:=bl 1 q;have e0:DB (T q) q x2 q=DB (T q) q x2 (r+1):=by rw[<-hr]
 rw[e0];exact apv q r (hS.app hl cG hn) (by simp) (λi hi=>h.2 _ _ i (hS.app hl cG hn) ⟨_,rfl⟩ hi)
def abG (q:Nat) (hq:130<=q) (hS:SH k .own bf) (b:Bool) (l:List Nat) (hl:∀y∈l,je k.role k.ps y) (cG:l.length<=24) {x2:aq bw} {K:oU.T->OR} (h:E0 k .own bf K Q):∀(c i:Nat),bf.length - i < c->i<=bf.length->
  Wp (AK (T q) q x2 c (WB k .own bf) b (l.map aV) (i:Int)) (J oU K Q)
 | 0,i,hc,_=>by omega
 | c+1,i,hc,hi=>by
  have CH:=hS.ln;have self:∃x,bf=bf++x:=⟨[],by simp⟩
  have uF:∀a:Bool×List Nat,1<=(kL a).length/\dI [.im 1] (List.take 1 (List.drop 0 (kL a)))=some ((a.1,a.2.map aV),()):=λa=>⟨by simp[kL],rfl⟩
  refine aG aa5 (ij (aj (λg1=>?_) (λg1=>aj (λg2=>aB (aH rfl (h.1 805 (by decide)))) (λg2=>?_))))
  ·have af:i < bf.length:=bW g1;refine nX (enc:=kL) (f:=λa=>((a.1,a.2.map aV),())) uF rfl (gE af) ?_;refine as5 (m:=q) (by omega) (by have:=(hS.ok _ (bU af)).2;omega) λbb=>aj (λg3=>aB (aH rfl (h.2 _ _ i hS self af))) (λg3=>?_)
   rw[wI i];exact abG q hq hS b l hl cG h c (i+1) (by omega) (by omega)
  ·have hn:bf.length≠40:=by
    intro h4;have:(ae (bf.map kL).length==40)=true:=by rw[cm,cX,h4];rfl
    have g3:(ae (bf.map kL).length==40)=false:=g2;rw[this] at g3;cases g3
   refine az (gW (by simp[WB];omega) (by omega)) ?_;have:=abI (x2:=x2) q hq hS b l hl cG h hn;have e:WB k .own (bf++[(b,l)])=(k.nm,(.im k.rb,k.rs),(.im k.pb,k.ps.map cP),k.role,(.own,bf.map kL++[[.sl (.im b) 1 (l.map aV)]]),()):=by simp[WB,kL]
   rw[e] at this;exact this
def apw (q:Nat) (hq:130<=q) (hS:SH k t bf) (b:Bool) (l:List Nat) (hl:∀y∈l,je k.role k.ps y) (cG:l.length<=24) {x2:aq bw} {K:oU.T->OR} (h:E0 k t bf K Q) :
  Wp (AK (T q) q x2 q (WB k t bf) b (l.map aV) 0) (J oU K Q):=by
 rcases hS.no with ht | ⟨ht,pJ⟩
 ·subst ht;have CH:=hS.ln;exact abG q hq hS b l hl cG h q 0 (by omega) (by omega)
 ·subst ht;have:=abI (x2:=x2) q hq hS b l hl cG h (by rw[pJ];simp);subst pJ;obtain⟨r,hr⟩:=bl 1 q;have e0:AK (T q) q x2 q=AK (T q) q x2 (r+1):=by rw[<-hr]
  rw[e0];exact aG aa5 (eL (eW rfl (eW rfl (az rfl this))))
def abH (q:Nat) (hq:130<=q) (hk:PH k) (hS:SH k t bf) (ab:Bool) (all:List Nat) (ha:∀x∈all,x < k.ps.length) (akO:all.length<=24) (b:Bool) (l:List Nat) (hl:∀y∈l,je k.role k.ps y) (cG:l.length<=24) {x2:aq bw} {K:oU.T->OR} (h:E0 k t bf K Q):∀(c i:Nat),all.length - i < c->i<=all.length->
  Wp (Lr (T q) q x2 c (WB k t bf) ab (all.map aV) b (l.map aV) (i:Int)) (J oU K Q)
 | 0,i,hc,_=>by omega
 | c+1,i,hc,hi=>by
  obtain⟨r,hr⟩:=bl 1 q;have e3:Lt (T q) q x2 c q=Lt (T q) q x2 c (r+1):=by rw[<-hr]
  have e4:DC (T q) q x2 q=DC (T q) q x2 (r+1):=by rw[<-hr]
  have CH:=hS.ln;have fin:Wp (DC (T q) q x2 q (WB k t bf) b (l.map aV)) (J oU K Q):=by
   rw[e4];exact aG anH (apw q hq hS b l hl cG h)
  refine aG anF (aj (λg1=>aj (λg2=>?_) (λg2=>fin)) (λg1=>fin));have af:i < all.length:=bW g1;rw[e3];refine aG anG (eL (eL ?_));refine aS gU rfl (gE af) ?_;refine asU (m:=q) (by omega) hk.iw λbb=>aj (λg3=>aB (aH rfl (h.1 801 (by decide)))) (λg3=>?_)
  rw[wI i];exact abH q hq hk hS ab all ha akO b l hl cG h c (i+1) (by omega) (by omega)
def Vj (hm:140<=m) (hk:PH k) (hS:SH k t bf) {b:Bool} {fr:List Nat} (hf:fr.length<=50) {K:oU.T->OR} (h:E0 k t bf K Q):Wp (c139 (T m) b (fr.map aV) (WB k t bf) K) Q:=by
 obtain⟨m,rfl⟩:=bT hm;have cG:=hk.iw.1;refine bI aiz (eL (eL ?_));refine afB (m:=m) (by omega) hk.iw hf λb1 l1 h1 jI=>?_
 refine afq (m:=m) (by omega) h1 (by omega) λb2 l2 h2 ew=>?_
 exact abH m (by omega) hk hS b1 l1 h1 (by omega) b2 l2 h2 (by omega) h m 0 (by omega) (by omega)
def IV (k:PK) (bf:List (Bool×List Nat)) (K:tL.T->OR) (Q:V->List (List C)->Prop):Prop:=
 (∀x y err,err≠0->Wp (K ((x,err,()),y,())) Q)/\∀(tn:TN) t' jz,SH k t' jz->(∃x,jz=bf++x)->HE jz.length tn->Wp (K (((tn.kd,tn.pr,(tn.t,tn.ms.map cM),()),0,()),WB k t' jz,())) Q
def acK:∀l:List AM,aK (l.map cM)=l.map cM
 | []=>rfl
 | a::t=>by simp only[e9,aK,acK t];rfl
def ae2 (q:Nat) (hq:550<=q) (hk:PH k) (b:Bool) (l:List Nat) (hl:∀y∈l,je k.role k.ps y) (cG:l.length<=24) (lb:Bool) (ls:List BB) (h6:ls.length<=6) (kd:Int) (oy:kd=1\/kd=2) (pr:BB) (a3:aq ji) {x2:aq bw} {K:tL.T->OR} (h:IV k bf K Q):∀(c i:Nat) (t:Tag) (jz:List (Bool×List Nat)) (o:List AM),ls.length - i < c->i<=ls.length->SH k t jz->(∃x,jz=bf++x)->(∀a∈o,a.nx < jz.length)->o.length=i->o≠[]->
  Wp (Lz (T q) q x2 c b (l.map aV) (WB k t jz) a3 lb (ls.map aE) (kd,pr,o.map cM,()) (i:Int)) (J tL K Q)
 | 0,i,t,jz,o,hc,_,_,_,_,_,_=>by omega
 | c+1,i,t,jz,o,hc,hi,hS,hx,ho,hoi,aD=>by
  refine aG anW (aj (λg1=>?_) (λg1=>?_))
  ·have af:i < ls.length:=bW g1;refine aS u7 rfl (gE af) ?_;refine Vg (m:=q) (by omega) hk hl cG λJk Jo cb to is RX=>?_
   refine Vj (m:=q) (by omega) hk hS (by omega) ⟨λerr he=>?_,λt' UA j QL Gz hj=>?_⟩
   ·refine cF (by simpa using he) (aB (aH rfl (h.1 _ _ _ he)))
   ·refine eW rfl ?_;refine aS u7 rfl (gE af) (az (gW (by simp;omega) (by omega)) ?_);obtain⟨x,hx⟩:=hx;obtain⟨y,hy⟩:=Gz;rw[wI i];have:=ae2 q hq hk b l hl cG lb ls h6 kd oy pr a3 (x2:=x2) h c (i+1) t' UA (o++[⟨ls[i],Jk,Jo,j⟩]) (by omega) (by omega) QL ⟨x++y,by rw[hy,hx,fI]⟩
     (by intro a ha;rw[dk] at ha;rcases ha with ha | ha;have:=ho a ha;rw[hy];simp;omega;simp at ha;subst ha;exact hj) (by simp;omega) (by simp)
    rw[eF] at this;exact this
  ·refine az ?_ (az (by simp) (aB ?_))
   ·cases o with
    | nil=>exact absurd rfl aD
    | cons=>simp
   ·refine aH (x:=(((kd,pr,(false,o.map cM),()),0,()),WB k t jz,())) ?_ (h.2 ⟨kd,pr,false,o⟩ t jz hS hx (.inr ⟨oy,?_,by show o.length<=10;omega,ho⟩))
    ·show jH tL (.ao [.agg [iC kd,sC pr,lC (.im false) 4 (aK (whole (o.map cM)))],_],_)=_;rw[dZ,acK];rfl
    ·show 1<=o.length;cases o with
     | nil=>exact absurd rfl aD
     | cons=>simp
def ast (q:Nat) (hq:550<=q) (hk:PH k) (hS:SH k t bf) (b:Bool) (l:List Nat) (hl:∀y∈l,je k.role k.ps y) (cG:l.length<=24) (lb:Bool) (ls:List BB) (h6:ls.length<=6) (lR:ls≠[]) (kd:Int) (oy:kd=1\/kd=2) (pr:BB) (a3:aq ji) {x2:aq bw} {K:tL.T->OR} (h:IV k bf K Q) :
  Wp (Hd (T q) q x2 q b (l.map aV) (WB k t bf) a3 lb (ls.map aE) (kd,pr,(true,[]),()) 0) (J tL K Q):=by
 obtain⟨r,hr⟩:=bl 1 q;have e0:Hd (T q) q x2 q=Hd (T q) q x2 (r+1):=by rw[<-hr]
 rw[e0];have af:0 < ls.length:=by cases ls with | nil=>exact absurd rfl lR | cons=>simp
 refine aG anV (cF (aM (by rw[cm];simp;omega)) ?_);refine aS u7 (i:=0) rfl (gE af) ?_;refine Vg (m:=q) (by omega) hk hl cG λJk Jo cb to is RX=>?_
 refine Vj (m:=q) (by omega) hk hS (by omega) ⟨λerr he=>?_,λt' UA j QL Gz hj=>?_⟩
 ·refine cF (by simpa using he) (aB (aH rfl (h.1 _ _ _ he)))
 ·refine eW rfl ?_;refine aS u7 (i:=0) rfl (gE af) (az rfl ?_);exact ae2 q hq hk b l hl cG lb ls h6 kd oy pr a3 h r 1 t' UA [⟨ls[0],Jk,Jo,j⟩] (by omega) (by omega) QL Gz (by intro a ha;simp at ha;subst ha;exact hj) rfl (by simp)
def ae3 (q:Nat) (hq:550<=q) (hk:PH k) (hS:SH k t bf) (b:Bool) (l:List Nat) (hl:∀y∈l,je k.role k.ps y) (cG:l.length<=24) (lb:Bool) (ls:List BB) (h6:ls.length<=6) (lR:ls≠[]) (kd:Int) (oy:kd=1\/kd=2) (pr:BB) (a3:aq ji) {x2:aq bw} {K:tL.T->OR} (h:IV k bf K Q):∀(c i:Nat),ls.length - i < c->i<=ls.length->
  Wp (LA (T q) q x2 c b (l.map aV) (WB k t bf) a3 kd pr lb (ls.map aE) (i:Int)) (J tL K Q)
 | 0,i,hc,_=>by omega
 | c+1,i,hc,hi=>by
  refine aG anX (aj (λg1=>?_) (λg1=>ast q hq hk hS b l hl cG lb ls h6 lR kd oy pr a3 h));have af:i < ls.length:=bW g1;refine aS u7 rfl (gE af) ?_;refine Vg (m:=q) (by omega) hk hl cG λJk Jo cb to is RX=>aj (λg3=>aB (aH rfl (h.1 _ _ 804 (by decide)))) (λg3=>?_)
  rw[wI i];exact ae3 q hq hk hS b l hl cG lb ls h6 lR kd oy pr a3 h c (i+1) (by omega) (by omega)
def afE (hm:560<=m) (hk:PH k) (hS:SH k t bf) {b:Bool} {l:List Nat} (hl:∀y∈l,je k.role k.ps y) (cG:l.length<=24) {K:tL.T->OR} (h:IV k bf K Q):Wp (Pb (T m) b (l.map aV) (WB k t bf) K) Q:=by
 obtain⟨m,rfl⟩:=bT hm;have self:∃x,bf=bf++x:=⟨[],by simp⟩
 refine bI aiE (aj (λg1=>aB (aH rfl (h.2 ⟨0,[],true,[]⟩ t bf hS self (.inl ⟨rfl,rfl⟩)))) (λg1=>?_));have aD:l≠[]:=by intro h0;subst h0;cases g1
 refine asP (m:=m) (by omega) hk hl cG λkd pr err ak2=>aj (λg2=>?_) (λg2=>?_)
 ·have he:err≠0:=by simpa using g2
  exact aB (aH rfl (h.1 _ _ _ he))
 ·have he:err=0:=by simpa using g2
  have oy:=ak2 he aD;refine asR (m:=m) (by omega) hk hl cG λlb ls al lR Kc=>?_
  obtain⟨r,hr⟩:=bl 1 m;have e2:∀x,DF (T m) m x m=DF (T m) m x (r+1):=by intro x;rw[<-hr]
  have rest:∀(x2:aq bw) (a3:aq ji),Wp (DF (T m) m x2 m b (l.map aV) (WB k t bf) a3 kd pr lb (ls.map aE)) (J tL K Q):=by
   intro x2 a3;rw[e2];refine aG anY (aj (λg3=>aB (aH rfl (h.1 _ _ 805 (by decide)))) (λg3=>?_));have h6:ls.length<=6:=by
    have:¬ ae (ls.map aE).length > 6:=lj g3;rw[cm,cX] at this;omega
   exact ae3 m (by omega) hk hS b l hl cG lb ls h6 (lR aD) kd oy pr a3 h m 0 (by omega) (by omega)
  exact aj (λg3=>aj (λg4=>aB (aH rfl (h.1 _ _ 803 (by decide)))) (λg4=>rest _ _)) (λg3=>rest _ _)
end
end
section
open Go Go.ax PT
def wF (s:BB):Bool:=(s==[97,110,100])||((s==[97,115])||((s==[97,116])||((s==[98,111,111,108])||((s==[99,97,108,108])||((s==[99,104,97,110])||((s==[100,114,111,112])||((s==[101,108,115,101])||((s==[101,109,112,116,121])||((s==[101,110,100])||((s==[102,97,105,108])||((s==[102,97,108,115,101])||((s==[102,114,111,109])||((s==[104,101,97,114])||((s==[105,102])||((s==[105,110,116])||((s==[106,111,105,110])||((s==[108,101,110])||((s==[108,101,116])||((s==[108,105,115,116])||((s==[108,111,99,97,108])||((s==[108,111,115,116])||((s==[109,111,100])||((s==[110,111,116])||((s==[111,112,101,110])||((s==[111,114])||((s==[112,114,105,110,116])||((s==[112,114,111,99])||((s==[112,114,111,116,111,99,111,108])||((s==[112,117,115,104])||((s==[114,111,108,101,115])||((s==[115,97,121])||((s==[115,112,97,119,110])||((s==[115,116,111,112])||((s==[116,101,120,116])||((s==[116,111])||((s==[116,114,117,101])||((s==[117,110,105,116])||((s==[119,105,116,104])||false))))))))))))))))))))))))))))))))))))))
def W5 (b c:Bool):(bif b then rT else some (.one (.d (.bool c)),[]))=(some (.one (.d (.bool (b||c))),[]):OR):=by cases b<;>rfl
def alW (n:Nat) (hn:2<=n) (s:BB):T n 116 [.one (sC s)] []=some (.one (bC (wF s)),[]):=by
 obtain⟨m,rfl⟩:=p6 hn;refine ahm _ ?_;rw[al5];rw[show rF=(some (.one (.d (.bool false)),[]):OR) from rfl];simp only[W5];rfl
def isLet (c:UInt8):Bool:=decide (97<=c.toNat)&&decide (c.toNat<=122)
def oH (c:UInt8):Bool:=decide (48<=c.toNat)&&decide (c.toNat<=57)
def Nl (x:Nat) (lo hi:Int):(bif decide (ae x>=lo) then(some (.one (bC (decide (ae x<=hi))),[]):OR) else rF)=some (.one (bC (decide (lo<=ae x)&&decide (ae x<=hi))),[]):=by
 by_cases h:lo<=ae x
 ·rw[dO (by simpa using h),aM h];rfl
 ·rw[dy (by simpa using h),bm h];rfl
def abw (c:UInt8):(decide ((97:Int)<=ae c.toNat)&&decide (ae c.toNat<=(122:Int)))=isLet c:=by
 unfold isLet;rw[nh];congr 1<;>exact V2.2 (by omega)
def Yk (c:UInt8):(decide ((48:Int)<=ae c.toNat)&&decide (ae c.toNat<=(57:Int)))=oH c:=by
 unfold oH;rw[nh];congr 1<;>exact V2.2 (by omega)
def ab3 (n:Nat) (hn:1<=n) (c:UInt8):T n 115 [.one (.d (.int .u8 (ae c.toNat)))] []=some (.one (bC (isLet c)),[]):=by
 obtain⟨m,rfl⟩:=p6 hn;refine ahr _ ?_;rw[<-abw];exact Nl _ _ _
def apF (n:Nat) (hn:1<=n) (c:UInt8):T n 117 [.one (.d (.int .u8 (ae c.toNat)))] []=some (.one (bC (oH c)),[]):=by
 obtain⟨m,rfl⟩:=p6 hn;refine ahq _ ?_;rw[<-Yk];exact Nl _ _ _
end
section
open Go Go.ax PT
def kW (c:UInt8):Bool:=isLet c||oH c
def cq:BB->Bool
 | []=>false
 | c::r=>decide (r.length+1<=12)&&isLet c && !(wF (c::r))&&r.all kW
def EG (i:Nat) (h:i < 1000000):ak ((i:Int)+1)=((i+1:Nat):Int):=by
 show IntKind.wrap .i64 _=_;rw[wrap_i64 (by omega) (by omega)];simp
def abR (n:Nat) (hn:1<=n) (q:Nat) (s:BB) (hs:s.length < 100000):∀(k i:Nat),s.length - i < k->GV (T n) q k s (i:Int)=some (.one (bC ((s.drop i).all kW)),[])
 | 0,i,hk=>by omega
 | k+1,i,hk=>by
  rw[al6];by_cases h:i < s.length
  ·have hc:s[i]? = some s[i]:=gE h;have hd:s.drop i=s[i]::s.drop (i+1):=ku h;have ih:=abR n hn q s hs k (i+1) (by omega);rw[hd,vw];generalize s[i]=c at hc hd;rw[dO (by simp[nh];omega),Eb _ rfl,qO _ hc,ab3 n hn,tH];dsimp only;cases hl:isLet c with
   | true=>
    rw[dy (show (!true)=false from rfl),EG i (by omega),ih];simp[kW,hl]
   | false=>
    rw[dO (show (!false)=true from rfl),Eb _ rfl,qO _ hc,apF n hn,tH];dsimp only;cases hg:oH c with
    | true=>
     rw[dy (show (!true)=false from rfl),EG i (by omega),ih];simp[kW,hl,hg]
    | false=>
     rw[dO (show (!false)=true from rfl)];simp[kW,hl,hg]
  ·rw[dy (by simp[nh];omega),nC (by omega)];rfl
def wJ (n:Nat) (hn:20<=n) (s:BB):T n 62 [.one (sC s)] []=some (.one (bC (cq s)),[]):=by
 obtain⟨m,rfl⟩:=bl 20 n;refine ahn _ ?_;cases s with
 | nil=>rfl
 | cons c r=>
  have h1:ae (c::r).length=((r.length+1:Nat):Int):=by simp[nh]
  rw[h1,dy (by simp;omega)];by_cases h:r.length+1<=12
  ·rw[dy (by simp;omega),qO (o:=(c::r)[Int.toNat 0]?) (b:=c) _ rfl,ab3 (m+19) (by omega),tH];dsimp only;rw[show cq (c::r)=(decide (r.length+1<=12)&&isLet c && !(wF (c::r))&&r.all kW) from rfl,aM h];cases hl:isLet c with
   | false=>rfl
   | true=>
    rw[dy (show (!true)=false from rfl),c116,alW (m+19) (by omega),tH];dsimp only;cases hk:wF (c::r) with
    | true=>rfl
    | false=>
     rw[dy rfl,al7];rw[show (1:Int)=((1:Nat):Int) from rfl,abR (m+19) (by omega) _ (c::r) (by simp;omega) _ _ (by simp;omega)];rfl
  ·rw[dO (by simp;omega)];rw[show cq (c::r)=(decide (r.length+1<=12)&&isLet c && !(wF (c::r))&&r.all kW) from rfl,bm h];rfl
end
section
open Go Go.ax PT
structure RA where
 eK:BB
 kd:Int
 nm:BB
 nx:Int
def eH (a:RA):List D:=[.str a.eK,.int .i64 a.kd,.str a.nm,.int .i64 a.nx]
structure RP where
 fr:BB
 to:BB
 t:Bool
 ms:List RA
def gI (p:RP):List D:=[.str p.fr,.str p.to,.sl (.im p.t) 4 (p.ms.map eH)]
structure RT where
 kd:Int
 pr:BB
 t:Bool
 ms:List RA
def gJ (p:RT):List D:=[.int .i64 p.kd,.str p.pr,.sl (.im p.t) 4 (p.ms.map eH)]
def qX:BB->BB->Bool
 | p,[]=>cq p
 | p,c::t=>bif c==46 then cq p&&cq t else qX (p++[c]) t
def oe (k:Int) (x:BB):Bool:=bif k==5 then qX [] x else(decide (0<=k)&&decide (k < 5)&&x==[])
def vH (P:Int) (a:RA):Bool:=cq a.eK&&(oe a.kd a.nm&&(decide (0<=a.nx)&&decide (a.nx < P)))
def uk (P:Int):List BB->List RA->Bool
 | _,[]=>true
 | met,a::t=>!met.contains a.eK&&vH P a&&uk P (met++[a.eK]) t
def sD (P:Int) (l:List RA):Bool:=decide (1<=l.length)&&decide (l.length<=6)&&uk P [] l
def rH:List BB->List BB->Bool
 | _,[]=>true
 | pre,s::t=>!pre.contains s&&rH (pre++[s]) t
def jc (p:RP):Bool:=p.fr==[]&&(p.to==[]&&p.ms.isEmpty)
def rQ (rs:List BB) (p:RP):Bool:=jc p||(rs.contains p.fr&&(rs.contains p.to && !(p.fr==p.to)))
def pT (rs:List BB) (P:Int) (p:RP):Bool:=jc p||(rs.contains p.fr&&(rs.contains p.to&&(!(p.fr==p.to)&&sD P p.ms)))
def wU (nm:BB) (rs:List BB) (ps:List RP):Bool:=
 cq nm&&(decide (2<=rs.length)&&(decide (rs.length<=5)&&(rH [] rs&&(decide (1<=ps.length)&&(decide (ps.length<=24)&&(rs.all cq&&ps.all (pT rs ps.length)))))))
def sd (P:Int) (t:RT):Bool:=bif t.kd==0 then t.pr==[]&&t.ms.isEmpty else(bif t.kd==1||t.kd==2 then cq t.pr&&sD P t.ms else false)
def tU (ts:List RT):Bool:=decide (1<=ts.length)&&(decide (ts.length<=40)&&ts.all (sd ts.length))
def gT (p:RP):RT:=bif jc p then⟨0,[],p.t,p.ms⟩ else⟨1,p.to,p.t,p.ms⟩
def WL {X:Type} (f g h:X->Bool):∀l:List X,(∀x∈l,(f x&&g x)=h x)->(l.all f&&l.all g)=l.all h
 | [],_=>rfl
 | a::t,e=>by
  have e1:=e a jD;have ih:=WL f g h t λx hx=>e x (jC _ hx)
  simp only[vw];rw[<-e1,<-ih];cases f a<;>cases g a<;>cases t.all f<;>rfl
def akA {rs:List BB} (hr:rs.all cq=true) (P:Int) (p:RP):(rQ rs p&&sd P (gT p))=pT rs P p:=by
 unfold rQ pT gT;cases he:jc p with
 | true=>
  simp only[jc,cI] at he;simp[sd,he.2.2]
 | false=>
  simp only[xo,cond_false,sd];by_cases h:rs.contains p.to=true
  ·have hm:cq p.to=true:=gY.1 hr _ (by simpa using h);simp only[hm,h];cases rs.contains p.fr<;>cases p.fr==p.to<;>rfl
  ·have:rs.contains p.to=false:=by simpa using h
   rw[this];cases rs.contains p.fr<;>rfl
def aqx (nm:BB) (rs:List BB) (ps:List RP) :
  (cq nm&&(decide (2<=rs.length)&&(decide (rs.length<=5)&&(rH [] rs&&(decide (ps.length<=24)&&(rs.all cq&&(ps.all (rQ rs)&&tU (ps.map gT))))))))=wU nm rs ps:=by
 unfold wU tU;cases cq nm
 ·rfl
 cases decide (2<=rs.length)
 ·rfl
 cases decide (rs.length<=5)
 ·rfl
 cases rH [] rs
 ·rfl
 cases cG:decide (ps.length<=24)
 ·cases decide (1<=ps.length)<;>rfl
 cases hr:rs.all cq
 ·cases decide (1<=ps.length)<;>rfl
 have CH:decide ((ps.map gT).length<=40)=true:=by rw[cX];exact aM (by have:=sn cG;omega)
 rw[CH,cX,List.all_map];have:=WL (rQ rs) (sd ps.length∘gT) (pT rs ps.length) ps λp _=>akA hr _ p
 rw[<-this];cases decide (1<=ps.length)<;>cases ps.all (rQ rs)<;>rfl
end
section
open Go Go.ax PT
def WD {n f:Nat} {vs:List V} {bs:List (List C)} {r:V×List (List C)} (ht:pY f=none) (h:A4 f vs bs=some r):T (n+1) f vs bs=some r:=by
 unfold T;simp only[nG,ht];exact h
def Mr (k:Int) (nm:BB) (n:Int) (tx:BB):Prop:=
 (k=0/\cq nm=true/\n=0/\tx=[])\/(k=1/\nm=[]/\tx=[]/\-9223372036854775808<=n/\n<=9223372036854775807)\/(k=2/\nm=[]/\tx=[]/\(n=0\/n=1))\/
  (k=3/\nm=[]/\n=0/\tx.length<=24)\/(k=4/\nm=[]/\n=0/\tx=[])\/(k=5/\nm=[]/\n=0/\tx=[])
def wR:TT->Prop
 | .lf k nm n tx=>Mr k nm n tx
 | .un k a=>(k=15\/k=16)/\wR a
 | .bi k a b=>(yr k=true\/k=17\/k=18\/k=19)/\wR a/\wR b
def zf (acc:Nat) (l:BB):Nat:=l.foldl (λa c=>a * 10+(c.toNat - 48)) acc
def afa:∀(l:BB) (acc:Nat),acc<=zf acc l
 | [],acc=>cp _
 | c::r,acc=>by
  have:=afa r (acc * 10+(c.toNat - 48));show acc<=zf (acc * 10+(c.toNat - 48)) r;omega
def acC:∀(l:BB) (acc:Nat),(∀c∈l,oH c=true)->zf acc l<=9223372036854775808->Lib.parseUintM 18446744073709551615 acc l = .ok (zf acc l)
 | [],acc,_,_=>rfl
 | c::r,acc,hd,hv=>by
  have h1:=hd c (by simp);unfold oH at h1;simp only[cI,gX] at h1;have h2:zf acc (c::r)=zf (acc * 10+(c.toNat - 48)) r:=rfl;have h3:=afa r (acc * 10+(c.toNat - 48));rw[h2] at hv ⊢;simp only[Lib.parseUintM];rw[aP h1,aI (by omega),aI (by omega)];exact acC r _ (λx hx=>hd x (by simp[hx])) hv
def NT (d:Nat) (h:d < 10):(UInt8.ofNat (48+d)).toNat=48+d:=by
 show (48+d) % 256=48+d;omega
def Sj (d:Nat) (h:d < 10):oH (UInt8.ofNat (48+d))=true:=by
 unfold oH;rw[NT d h];simp;omega
def zP:∀(f u:Nat),u < 10 ^ (f+1)->(∀c∈oi f u,oH c=true)/\zf 0 (oi f u)=u/\oi f u≠[]/\(oi f u).length<=f+1
 | 0,u,h=>by
  have h1:u < 10:=by simpa using h
  refine⟨λc hc=>?_,?_,by simp[oi],by simp[oi]⟩
  ·simp[oi] at hc;subst hc;have:=Sj u h1;simpa using this
  ·show 0 * 10+((UInt8.ofNat (48+u)).toNat - 48)=u;rw[NT u h1];omega
 | f+1,u,h=>by
  simp only[oi];by_cases h1:u < 10
  ·rw[aP h1];refine⟨λc hc=>?_,?_,by simp,by simp⟩
   ·simp at hc;subst hc;have:=Sj u h1;simpa using this
   ·show 0 * 10+((UInt8.ofNat (48+u)).toNat - 48)=u;rw[NT u h1];omega
  ·rw[aI h1];have ih:=zP f (u / 10) (by rw[Wd] at h;omega);refine⟨λc hc=>?_,?_,by simp,by simp;omega⟩
   ·rw[dk] at hc;rcases hc with hc | hc
    ·exact ih.1 c hc
    ·rw[pd] at hc;subst hc;exact Sj (u % 10) (by omega)
   ·unfold zf at ih ⊢;rw[List.foldl_append,ih.2.1];show u / 10 * 10+((UInt8.ofNat (48+u % 10)).toNat - 48)=u;rw[NT (u % 10) (by omega)];omega
def Ym (f u:Nat) (h:u < 10 ^ (f+1)) (hu:u<=9223372036854775808):Lib.parseUintB 64 (oi f u) = .ok u:=by
 have h1:=zP f u h;unfold Lib.parseUintB;rw[aI h1.2.2.1,show (2:Nat) ^ 64 - 1=18446744073709551615 by decide,acC _ _ h1.1 (by rw[h1.2.1];exact hu),h1.2.1]
def aqg {n:Int} (h0 : -9223372036854775808<=n) (h1:n<=9223372036854775807):Lib.parseIntB 64 (pM n) = .ok n:=by
 unfold pM;have e:(2:Nat) ^ (64 - 1)=9223372036854775808:=by decide
 have e2:(10:Nat) ^ (19+1)=100000000000000000000:=by decide
 by_cases h:n < 0
 ·rw[aP h,Lib.parseIntB_minus,Ym 19 n.natAbs (by rw[e2];omega) (by omega)];simp only[Lib.signedC,e];rw[aI (by omega)];congr 1;omega
 ·rw[aI h];have hd:=zP 19 n.toNat (by rw[e2];omega);have hn:=Ym 19 n.toNat (by rw[e2];omega) (by omega);cases hc:oi 19 n.toNat with
  | nil=>exact absurd hc hd.2.2.1
  | cons c r=>
   rw[hc] at hd hn;have h3:=hd.1 c (by simp);unfold oH at h3;simp only[cI,gX] at h3;rw[Lib.parseIntB_plain 64 c r (by omega) (by omega),hn];simp only[Lib.signlessC,e];rw[aI (by omega)];congr 1;omega
def alS {n:Int} (h0 : -9223372036854775808<=n) (h1:n<=9223372036854775807):(pM n).length<=21:=by
 have e2:(10:Nat) ^ (19+1)=100000000000000000000:=by decide
 unfold pM;by_cases h:n < 0
 ·rw[aP h];have:=(zP 19 n.natAbs (by rw[e2];omega)).2.2.2;simp;omega
 ·rw[aI h];have:=(zP 19 n.toNat (by rw[e2];omega)).2.2.2;omega
end
section
open Go Go.ax PT
def FZ:BB:=[48,49,50,51,52,53,54,55,56,57,97,98,99,100,101,102]
def rf (v:Nat):UInt8:=FZ.getD v 0
def qc (c:UInt8):BB:=if c.toNat=34\/c.toNat=92 then[92,c] else if c.toNat=10 then[92,110] else if c.toNat < 32\/126 < c.toNat then[92,120,rf (c.toNat / 16),rf (c.toNat % 16)] else[c]
def yQ (s:BB):BB:=34::(s.flatMap qc++[34])
def gf:TT->BB
 | .lf k nm n tx=>if k=0 then nm else if k=1 then pM n else if k=2 then(if n=1 then[116,114,117,101] else[102,97,108,115,101])
  else if k=3 then yQ tx else if k=4 then[101,109,112,116,121] else[117,110,105,116]
 | .un k a=>if k=15 then[40,110,111,116,32]++gf a++[41] else(uw k++[40])++gf a++[41]
 | .bi k a b=>if yr k=true then[40]++gf a++([32]++rX k++[32])++gf b++[41] else(uw k++[40])++gf a++[44,32]++gf b++[41]
def WM {p:Nat->Bool} {N:Nat} (h:(List.range N).all p=true) (n:Nat) (hn:n < N):p n=true:=gY.1 h n (vu.2 hn)
def ZS (n:Nat):Bool:=decide (bL ((ae n).fdiv ((2:Int) ^ min 4 IntKind.u8.bits))=some (n / 16))&&decide (FZ[n / 16]? = some (rf (n / 16))) &&
 decide (FZ[(w8 (ae (BitVec.ofInt IntKind.u8.bits (ae n) &&& BitVec.ofInt IntKind.u8.bits (15:Int)).toNat)).toNat]? = some (rf (n % 16)))
def ak3:(List.range 256).all ZS=true:=by kernel_rfl
def ak4 (c:UInt8):bL ((ae c.toNat).fdiv ((2:Int) ^ min 4 IntKind.u8.bits))=some (c.toNat / 16)/\FZ[c.toNat / 16]? = some (rf (c.toNat / 16))/\
  FZ[(w8 (ae (BitVec.ofInt IntKind.u8.bits (ae c.toNat) &&& BitVec.ofInt IntKind.u8.bits (15:Int)).toNat)).toNat]? = some (rf (c.toNat % 16)):=by
 have h:=WM ak3 c.toNat c.toNat_lt;unfold ZS at h;simp only[cI,gX] at h;exact⟨h.1.1,h.1.2,h.2⟩
def Ih (a b:BB):D.c8 (a++b)=D.c8 a++D.c8 b:=by unfold D.c8;exact eF
def nw (a:BB):(D.c8 a).length=a.length:=by unfold D.c8;exact cX _
def ar2 {a:BB} (h:a≠[]):(D.c8 a).isEmpty=false:=by cases a with | nil=>exact absurd rfl h | cons=>rfl
def Ew:∀b:BB,kG (D.c8 b)=some b
 | []=>rfl
 | c::r=>by
  show (kG (D.c8 r)).map (UInt8.ofNat ((c.toNat:Int).toNat) :: ·)=some (c::r);rw[Ew r];show some (UInt8.ofNat c.toNat::r)=some (c::r);rw[UInt8.ofNat_toNat]
def qgd (src:RR) (b:BB) (k:Nat) (hb:b≠[]) (hl:b.length+k<=100000000000000) :
  (fS 1 src (D.c8 b).isEmpty&&true&&true&&(D.c8 b).length==(D.c8 b).length&&true&&decide (((D.c8 b).length+k) * 1<=140737488355328))=true:=by
 rw[ar2 hb,nw,BE,aM (by omega)];simp[fS]
def qg (b:BB) (k:Nat) (hl:b.length+k<=100000000000000):((D.c8 b).length==(D.c8 b).length&&true&&decide (((D.c8 b).length+k) * 1<=140737488355328))=true:=by
 rw[nw,BE,aM (by omega)];rfl
def wgd (s b:BB) (hb:b≠[]) (hl:b.length+s.length<=100000000000000) :
  (fS 1 (D.c8 s) (D.c8 b).isEmpty&&true&&true&&(D.c8 b).length==(D.c8 b).length&&true&&decide (((D.c8 b).length+(D.c8 s).length) * 1<=140737488355328))=true:=by
 rw[nw s];exact qgd (D.c8 s) b s.length hb hl
def Mv (c:UInt8) (n:Nat):(ae c.toNat==(n:Int))=decide (c.toNat=n):=by
 rw[nh];by_cases h:c.toNat=n
 ·rw[h];simp
 ·rw[bm h];simp;omega
def ade (n q:Nat) (s:BB) (hs:s.length < 100000):∀(k i:Nat) (b:BB),s.length - i < k->b≠[]->b.length+4 * (s.length - i)+1<=100000000000000->
  GU (T n) (q+1) k s (D.c8 b) (i:Int)=some (.one (sC (b++(s.drop i).flatMap qc++[34])),[])
 | 0,i,b,hk,_,_=>by omega
 | k+1,i,b,hk,hb,hl=>by
  rw[al3];by_cases h:i < s.length
  ·have hc:s[i]? = some s[i]:=gE h;have hd:s.drop i=s[i]::s.drop (i+1):=ku h;have ih:=λ(x:BB) (hx:x.length<=4)=>ade n q s hs k (i+1) (b++x) (by omega) (by simp[hb]) (by simp;omega)
   rw[hd,Oh];generalize s[i]=c at hc hd;have fin:∀(x:BB),x.length<=4->x=qc c->yw (T n) (q+1) k (q+1) s (D.c8 b++D.c8 x) (i:Int) =
     some (.one (sC (b++(qc c++(s.drop (i+1)).flatMap qc)++[34])),[]):=by
    intro x hx he;rw[al4];rw[EG i (by omega),<-Ih,ih x hx,he];simp
   rw[dO (by simp[nh];omega),Eb _ rfl,qO _ hc];rw[show (ae c.toNat==(34:Int))=decide (c.toNat=34) from Mv c 34,show (ae c.toNat==(92:Int))=decide (c.toNat=92) from Mv c 92,show (ae c.toNat==(10:Int))=decide (c.toNat=10) from Mv c 10];by_cases h1:c.toNat=34
   ·rw[dO (aM h1)];refine(oo (qg b 2 (by omega))).trans ?_;exact fin [92,c] (by simp) (by unfold qc;rw[aP (.inl h1)])
   ·rw[dy (bm h1)];by_cases h2:c.toNat=92
    ·rw[dO (aM h2)];refine(oo (qg b 2 (by omega))).trans ?_;exact fin [92,c] (by simp) (by unfold qc;rw[aP (.inr h2)])
    ·rw[dy (bm h2)];by_cases h3:c.toNat=10
     ·rw[dO (aM h3)];refine(oo (qg b 2 (by omega))).trans ?_;exact fin [92,110] (by simp) (by unfold qc;rw[aI (by omega),aP h3])
     ·rw[dy (bm h3)];obtain⟨x1,x2,x3⟩:=ak4 c;by_cases h4:c.toNat < 32
      ·rw[dO (aM (show ae c.toNat < (32:Int) by rw[nh];omega)),qO _ x1];refine(qO _ x2).trans ?_;refine(qO _ x3).trans ?_;refine(oo (qg b 4 (by omega))).trans ?_;exact fin [92,120,rf (c.toNat / 16),rf (c.toNat % 16)] (by simp) (by unfold qc;rw[aI (by omega),aI h3,aP (.inl h4)])
      ·rw[dy (bm (show ¬ ae c.toNat < (32:Int) by rw[nh];omega))];by_cases h5:126 < c.toNat
       ·rw[dO (aM (show ae c.toNat > (126:Int) by rw[nh];omega)),qO _ x1];refine(qO _ x2).trans ?_;refine(qO _ x3).trans ?_;refine(oo (qg b 4 (by omega))).trans ?_;exact fin [92,120,rf (c.toNat / 16),rf (c.toNat % 16)] (by simp) (by unfold qc;rw[aI (by omega),aI h3,aP (.inr h5)])
       ·rw[dy (bm (show ¬ ae c.toNat > (126:Int) by rw[nh];omega))];refine(oo (qg b 1 (by omega))).trans ?_;exact fin [c] (by simp) (by unfold qc;rw[aI (by omega),aI h3,aI (by omega)])
  ·rw[dy (by simp[nh];omega),nC (by omega)];refine(oo (qg b 1 (by omega))).trans ?_;refine(qO (b:=b++[34]) _ ?_).trans ?_
   ·exact(fW kG (Ih b [34]).symm).trans (Ew _)
   ·simp
def aqE (n:Nat) (hn:2<=n) (s:BB) (hs:s.length+1 < n) (h2:s.length < 10000):T n 161 [.one (sC s)] []=some (.one (sC (yQ s)),[]):=by
 obtain⟨m,rfl⟩:=bl 2 n;refine ahk _ ?_;have:=ade (m+1) m s (by omega) (m+1) 0 [34] (by omega) (by simp) (by simp;omega);exact(show GU (T (m+1)) (m+1) (m+1) s [[D.int .u8 34]] 0=_ from this).trans (by simp[yQ])
def NK (b:BB):Tag×RR:=match b with | []=>(.im true,[]) | _=>(.own,D.c8 b)
abbrev bB (b:BB):aq bp:=((),NK b,())
def rU (z:Int) (p:aq bp) {R:Type} (K:(Int×Bool×Unit)×aq bp×Unit->Option R):aA Up (some (.ao [.one (iC z),.one .fQ],[bx bp p])) K=K ((z,true,()),p,()):=by
 obtain⟨u,⟨t,r⟩,u2⟩:=p;cases u;cases u2;rfl
def rV (p:aq bp) {R:Type} (K:Unit×aq bp×Unit->Option R):aA kj (some (.ao [],[bx bp p])) K=K ((),p,()):=by
 obtain⟨u,⟨t,r⟩,u2⟩:=p;cases u;cases u2;rfl
def cc' (n:Nat) (hn:1<=n) (p:aq bp):T n 91 [pE] [bx bp p]=some (.ao [],[bx bp p]):=by
 obtain⟨m,rfl⟩:=p6 hn;refine WD rfl ?_;obtain⟨u,⟨t,r⟩,u2⟩:=p;cases u;cases u2;rfl
def sj (n:Nat) (hn:2<=n) (s b:BB) (hl:b.length+s.length<=100000000000000):T n 35 [pE,.one (sC s)] [bx bp (bB b)]=some (.ao [.one (iC (s.length:Int)),.one .fQ],[bx bp (bB (b++s))]):=by
 obtain⟨m,rfl⟩:=p6 hn;refine Yu _ ?_;rw[c91,cc' (m+1) (by omega),rV];cases b with
 | nil=>
  dsimp only[NK,zZ];refine(oo ?_).trans ?_
  ·rw[nw,aM (by simp at hl;omega)];simp[fS]
  ·cases s with
   | nil=>rfl
   | cons c r=>rfl
 | cons c r=>
  dsimp only[NK,zZ];refine(oo ?_).trans ?_
  ·exact wgd s (c::r) (by simp) hl
  ·rw[<-Ih];rfl
def alP (n:Nat) (hn:1<=n) {z:Int} (h0 : -9223372036854775808<=z) (h1:z<=9223372036854775807):T n 159 [.one (iC z),.one (iC 10)] []=some (.one (sC (pM z)),[]):=by
 obtain⟨m,rfl⟩:=p6 hn;refine WD rfl ?_;show (if(10:Int)=10/\-9223372036854775808<=z/\z<=9223372036854775807 then some (V.one (.d (.str (pM z))),([]:List (List C))) else none)=_;rw[aP ⟨rfl,h0,h1⟩]
def agv (n:Nat) (hn:2<=n) (b:Bool):T n 160 [.one (bC b)] []=some (V.one (sC (if b then[116,114,117,101] else[102,97,108,115,101])),[]):=by
 obtain⟨m,rfl⟩:=p6 hn;refine ai7 _ (Bl (b:=if b then[116,114,117,101] else[102,97,108,115,101]) (ai8 _ ?_) rfl);cases b<;>rfl
def iE {k c:Int} {R:Type} {x y:R} (h:k≠c):(bif k==c then x else y)=y:=by rw[dy (by simpa using h)]
def apk (n:Nat) (hn:40<=n) {k:Int} {nm:BB} {z:Int} {tx:BB} (h:Mr k nm z tx) (x y:Int):T n 102 [.agg [iC k,sC nm,iC z,sC tx,iC x,iC y]] []=some (.one (sC (gf (.lf k nm z tx))),[]):=by
 obtain⟨m,rfl⟩:=bl 40 n;refine ahz _ ?_;rcases h with⟨rfl,h,rfl,rfl⟩ | ⟨rfl,rfl,rfl,h,h'⟩ | ⟨rfl,rfl,rfl,h⟩ | ⟨rfl,rfl,rfl,h⟩ | ⟨rfl,rfl,rfl,rfl⟩ | ⟨rfl,rfl,rfl,rfl⟩
 ·rfl
 ·rw[dy (by decide),dO (by decide),c159,alP (m+39) (by omega) h h',w6];rfl
 ·rw[dy (by decide),dy (by decide),dO (by decide),c160,agv (m+39) (by omega),w6];rcases h with rfl | rfl<;>rfl
 ·rw[dy (by decide),dy (by decide),dy (by decide),dO (by decide),Xt,aqE (m+39) (by omega) tx (by omega) (by omega),w6];rfl
 ·rfl
 ·rfl
def TX (n:Nat) (hn:1<=n) (k:Int):T n 103 [.one (iC k)] []=some (.one (sC (rX k)),[]):=by
 obtain⟨m,rfl⟩:=p6 hn;refine ahD _ ?_;unfold rX;repeat' split
 all_goals (try subst_vars)
 all_goals (first | rfl | (simp only[iE, *,ne_eq,Oe,not_true_eq_false];done) | skip)
 all_goals (repeat (first | rw[iE (by assumption)] | rfl))
def acE (n:Nat) (hn:1<=n) (k:Int):T n 104 [.one (iC k)] []=some (.one (sC (uw k)),[]):=by
 obtain⟨m,rfl⟩:=p6 hn;refine ahy _ ?_;unfold uw;repeat' split
 all_goals (try subst_vars)
 all_goals (first | rfl | skip)
 all_goals (repeat (first | rw[iE (by assumption)] | rfl))
end
section
open Go Go.ax PT
def Qu {R:Type} {n:Nat} {x:Option R} (h:n<=9223372036854775807):aO n x=x:=by unfold aO;rw[aM h];rfl
def TT.zA {l:RR}:∀{t:TT} {i:Int},t.at_ l i->∃j:Nat,i=j
 | .lf ..,_,⟨j,h,_⟩=>⟨j,h⟩
 | .un ..,_,⟨j,_,h,_⟩=>⟨j,h⟩
 | .bi ..,_,⟨j,_,_,h,_⟩=>⟨j,h⟩
def aef (k:Int):(rX k).length<=3:=by
 unfold rX;repeat' split
 all_goals decide
def Jn (k:Int):(uw k).length<=4:=by
 unfold uw;repeat' split
 all_goals decide
def arv {k:Int} (h:yr k=true):(rX k==[])=false:=by
 unfold yr at h;simp only[cI,gX] at h;have:k=6\/k=7\/k=8\/k=9\/k=10\/k=11\/k=12\/k=13\/k=14:=by omega
 rcases this with rfl | rfl | rfl | rfl | rfl | rfl | rfl | rfl | rfl<;>rfl
section
variable (x0:Bool) (l:RR)
def M5:∀(t:TT),wR t->∀(i:Int),t.at_ l i->∀n,60 * t.size<=n->∀b:BB,b.length+(gf t).length<=100000000000000->
  T n 50 [pE,.one (lC (.im x0) 6 l),.one (iC i)] [bx bp (bB b)]=some (.ao [],[bx bp (bB (b++gf t))])
 | .lf k nm z tx,h,i,⟨j,hi,hr⟩,n,hn,b,hb=>by
  have hn:60<=n:=hn;obtain⟨m,rfl⟩:=bl 60 n;refine P2 _ ?_;refine fZ (v:=(k,nm,z,tx,-1,-1,())) hi hr (cp 6) rfl ?_;dsimp only;rw[dO (aM (show (-1:Int) < 0 by omega)),Xl,apk (m+59) (by omega) h,w6];dsimp only;rw[dw,sj (m+59) (by omega) _ _ hb,rU];rfl
 | .un k a,h,i,⟨j,x,hi,hr,ha⟩,n,hn,b,hb=>by
  have ih:=M5 a h.2 x ha;have hn:60 * (a.size+1)<=n:=hn;obtain⟨jx,hx⟩:=(TT.zA ha)
  have oG:¬ x < 0:=by omega
  obtain⟨m,rfl⟩:=bl 60 n;refine P2 _ ?_;refine fZ (v:=(k,[],0,[],x,-1,())) hi hr (cp 6) rfl ?_;dsimp only;rw[dy (bm oG)];rcases h.1 with rfl | rfl
  ·have e:gf (.un 15 a)=[40,110,111,116,32]++gf a++[41]:=rfl;rw[e] at hb ⊢;simp only[fH,jl,mL] at hb;rw[dO (by decide),dw,sj (m+59) (by omega) _ _ (by simp;omega),rU];dsimp only;rw[dO rfl,ky,ih (m+59) (by omega) _ (by simp;omega),rV];dsimp only;rw[dw,sj (m+59) (by omega) _ _ (by simp;omega),rU];dsimp only;rw[dO rfl];simp only[fI]
  ·have e:gf (.un 16 a)=[108,101,110,40]++gf a++[41]:=rfl;rw[e] at hb ⊢;simp only[fH,jl,mL] at hb;rw[dy (by decide),BV,TX (m+59) (by omega),w6];dsimp only;rw[dy (by decide),O7,acE (m+59) (by omega),w6];dsimp only;refine(Qu (by have:=Jn 16;omega)).trans ?_;rw[show uw 16++[40]=[108,101,110,40] from rfl,dw,sj (m+59) (by omega) _ _ (by simp;omega),rU];dsimp only;rw[dO rfl,ky,ih (m+59) (by omega) _ (by simp;omega),rV];dsimp only;rw[dy (bm (show ¬ (-1:Int)>=0 by omega)),dw,sj (m+59) (by omega) _ _ (by simp;omega),rU];dsimp only;rw[dO rfl];simp only[fI]
 | .bi k a a',h,i,⟨j,x,y,hi,hr,ha,CN⟩,n,hn,b,hb=>by
  have ih:=M5 a h.2.1 x ha;have GF:=M5 a' h.2.2 y CN;have hn:60 * (a.size+a'.size+1)<=n:=hn;obtain⟨jx,hx⟩:=(TT.zA ha)
  obtain⟨jy,hy⟩:=(TT.zA CN)
  have oG:¬ x < 0:=by omega
  have hy0:y>=0:=by omega
  obtain⟨m,rfl⟩:=bl 60 n;have alc:k≠15:=by
   rintro rfl;rcases h.1 with h | h | h | h
   ·exact absurd h (by decide)
   ·cases h
   ·cases h
   ·cases h
  refine P2 _ ?_;refine fZ (v:=(k,[],0,[],x,y,())) hi hr (cp 6) rfl ?_;dsimp only;rw[dy (bm oG),iE alc,BV,TX (m+59) (by omega),w6];dsimp only;by_cases hk:yr k=true
  ·have e:gf (.bi k a a')=[40]++gf a++([32]++rX k++[32])++gf a'++[41]:=by simp only[gf,hk,dj]
   rw[e] at hb ⊢;have hs:=aef k;simp only[fH,jl,mL] at hb;rw[dO (by rw[arv hk];rfl),dw,sj (m+59) (by omega) _ _ (by simp;omega),rU];dsimp only;rw[dO rfl,ky,ih (m+59) (by omega) _ (by simp;omega),rV];dsimp only;rw[BV,TX (m+59) (by omega),w6];dsimp only;refine(oo (aM (show 1+(rX k).length<=9223372036854775807 by omega))).trans ?_;refine(Qu (show ([32]++rX k:BB).length+1<=9223372036854775807 by simp;omega)).trans ?_;rw[dw,sj (m+59) (by omega) _ _ (by simp;omega),rU];dsimp only;rw[dO rfl,ky,GF (m+59) (by omega) _ (by simp;omega),rV];dsimp only;rw[dw,sj (m+59) (by omega) _ _ (by simp;omega),rU];dsimp only;rw[dO rfl];simp only[fI]
  ·have e:gf (.bi k a a')=(uw k++[40])++gf a++[44,32]++gf a'++[41]:=by simp only[gf,hk,eX];rfl
   have iH:k=17\/k=18\/k=19:=by rcases h.1 with h | h;exact absurd h hk;exact h
   have hsg:rX k=[]:=by rcases iH with rfl | rfl | rfl<;>rfl
   rw[e] at hb ⊢;have hs:=Jn k;simp only[fH,jl,mL] at hb;rw[hsg,dy (by decide),O7,acE (m+59) (by omega),w6];dsimp only;refine(Qu (by omega)).trans ?_;rw[dw,sj (m+59) (by omega) _ _ (by simp;omega),rU];dsimp only;rw[dO rfl,ky,ih (m+59) (by omega) _ (by simp;omega),rV];dsimp only;rw[dO (aM hy0),dw,sj (m+59) (by omega) _ _ (by simp;omega),rU];dsimp only;rw[dO rfl,ky,GF (m+59) (by omega) _ (by simp;omega),rV];dsimp only;rw[dw,sj (m+59) (by omega) _ _ (by simp;omega),rU];dsimp only;rw[dO rfl];simp only[fI]
def sgd (b:BB) (hb:b≠[]) (hl:b.length<=100000000000000):((D.c8 b).length==(D.c8 b).length && !((D.c8 b).length==0)&&decide ((D.c8 b).length<=140737488355328))=true:=by
 rw[nw,BE,aM (by omega)];cases b with
 | nil=>exact absurd rfl hb
 | cons=>rfl
def NH (n:Nat) (hn:1<=n) (b:BB) (hb:b≠[]) (hl:b.length<=100000000000000):T n 37 [pE] [bx bp (bB b)]=some (.one (sC b),[bx y9 ((),(),())]):=by
 obtain⟨m,rfl⟩:=p6 hn;refine Yt _ ?_;cases b with
 | nil=>exact absurd rfl hb
 | cons c r=>
  dsimp only[NK,zZ];have h0:((D.c8 (c::r)).length==0)=false:=by rw[nw];rfl
  refine(oo (by rw[h0];rfl)).trans ?_;refine(oo (sgd (c::r) (by simp) hl)).trans ?_;exact(qO _ (Ew (c::r))).trans rfl
def Ui (s:BB) {R:Type} (K:BB×aq y9×Unit->Option R):aA Um (some (.one (sC s),[bx y9 ((),(),())])) K=K (s,((),(),()),()):=rfl
def ae4:∀{t:TT},wR t->gf t≠[]
 | .lf k nm z tx,h=>by
  rcases h with⟨rfl,h,rfl,rfl⟩ | ⟨rfl,rfl,rfl,h,h'⟩ | ⟨rfl,rfl,rfl,h⟩ | ⟨rfl,rfl,rfl,h⟩ | ⟨rfl,rfl,rfl,rfl⟩ | ⟨rfl,rfl,rfl,rfl⟩
  ·intro h1;have:nm=[]:=h1;subst this;cases h
  ·intro h1;have hp:=aqg h h';rw[show pM z=[] from h1] at hp;cases hp
  ·rcases h with rfl | rfl<;>simp[gf]
  ·simp[gf,yQ]
  ·simp[gf]
  ·simp[gf]
 | .un k a,h=>by simp only[gf];split<;>simp
 | .bi k a b,h=>by simp only[gf];split<;>simp
def aeR {t:TT} (h:wR t) {i:Int} (ha:t.at_ l i) (hl:(gf t).length<=100000000000000) {n:Nat} (hn:60 * t.size+3<=n) (hM:∀k,n<=k+1->T k 25 [.one (lC (.im x0) 6 l),.one (iC i)] []=some (.one (bC true),[])) :
  T n 15 [.one (lC (.im x0) 6 l),.one (iC i)] []=some (.one (sC (gf t)),[]):=by
 have hp:=M5 x0 l t h i ha;obtain⟨m,rfl⟩:=bl 1 n;refine P1 _ ?_;rw[BY,hM m (cp _),tH];dsimp only;rw[dy (show (!true)=false from rfl)];have:=hp m (by omega) [] (by simpa using hl);rw[zr] at this;have e:(bx bp ((),((Tag.im true),[]),()))=bx bp (bB []):=rfl;rw[ky,e,this,rV];dsimp only;rw[c37,NH m (by omega) _ (ae4 h) hl,Ui]
end
end
section
open Go Go.ax PT
structure TR where
 k:Int
 nm:BB
 n:Int
 tx:BB
 x:Int
 y:Int
def cR (t:TR):List D:=row t.k t.nm t.n t.tx t.x t.y
def jf (k:Int):Int:=if k=0\/k=1\/k=2\/k=3\/k=4\/k=5 then 0 else if k=15\/k=16 then 1
 else if k=6\/k=7\/k=8\/k=9\/k=10\/k=11\/k=12\/k=13\/k=14\/k=17\/k=18\/k=19 then 2 else -1
def uA (t:TR):Bool:=
 bif t.k==0 then(bif cq t.nm then(bif t.n==0 then t.tx==[] else false) else false)
 else bif t.k==1 then(bif t.nm==[] then t.tx==[] else false)
 else bif t.k==2 then(bif t.nm==[] then(bif t.tx==[] then(bif t.n==0 then true else t.n==1) else false) else false)
 else bif t.k==3 then(bif t.nm==[] then(bif t.n==0 then decide (t.tx.length<=24) else false) else false)
 else(bif t.nm==[] then(bif t.n==0 then t.tx==[] else false) else false)
abbrev WF:=Nat->Int->List Bool->Bool×List Bool
def cU (rc:WF) (ops i to:Int) (a:Nat) (d:Int) (m:List Bool):Bool×List Bool:=
 bif decide (i>=ops) then(decide (to = -1),m) else bif decide (to < 0) then(false,m) else bif decide (to>=(a:Int)) then(false,m) else rc to.toNat (d+1) m
def Bu (rc:WF) (l:List TR) (a:Nat) (d:Int) (m:List Bool):Bool×List Bool:=
 match l[a]? with
 | none=>(false,m)
 | some t=>
  bif m.getD a false then(false,m) else bif decide (d > 24) then(false,m) else bif decide (jf t.k < 0) then(false,m) else bif !(uA t) then(false,m)
  else bif (cU rc (jf t.k) 0 t.x a d (m.set a true)).1 then cU rc (jf t.k) 1 t.y a d (cU rc (jf t.k) 0 t.x a d (m.set a true)).2 else(false,(cU rc (jf t.k) 0 t.x a d (m.set a true)).2)
def wk (l:List TR):Nat->WF
 | 0=>λ_ _ m=>(false,m)
 | f+1=>Bu (wk l f) l
def aqb (n:Nat) (hn:2<=n) (k:Int):T n 68 [.one (iC k)] []=some (.one (iC (jf k)),[]):=by
 obtain⟨m,rfl⟩:=p6 hn;refine ajd _ ?_;by_cases h0:k=0\/k=1\/k=2\/k=3\/k=4\/k=5
 ·rcases h0 with rfl | rfl | rfl | rfl | rfl | rfl<;>rfl
 by_cases h1:k=15\/k=16
 ·rcases h1 with rfl | rfl<;>rfl
 by_cases h2:k=6\/k=7\/k=8\/k=9\/k=10\/k=11\/k=12\/k=13\/k=14\/k=17\/k=18\/k=19
 ·rcases h2 with rfl | rfl | rfl | rfl | rfl | rfl | rfl | rfl | rfl | rfl | rfl | rfl<;>rfl
 rw[show jf k = -1 by unfold jf;rw[aI h0,aI h1,aI h2]];simp only[not_or] at h0 h1 h2;rw[iE h0.1,iE h0.2.1,iE h0.2.2.1,iE h0.2.2.2.1,iE h0.2.2.2.2.1,iE h0.2.2.2.2.2,iE h1.1,iE h1.2,iE h2.1,iE h2.2.1,iE h2.2.2.1,iE h2.2.2.2.1,iE h2.2.2.2.2.1,iE h2.2.2.2.2.2.1,iE h2.2.2.2.2.2.2.1,iE h2.2.2.2.2.2.2.2.1,iE h2.2.2.2.2.2.2.2.2.1,iE h2.2.2.2.2.2.2.2.2.2.1,iE h2.2.2.2.2.2.2.2.2.2.2.1,iE h2.2.2.2.2.2.2.2.2.2.2.2];rfl
def pq {b:Bool} {p q:OR} {x y:Bool} (h:p=some (.one (bC x),[])) (h':q=some (.one (bC y),[])):(bif b then p else q)=some (.one (bC (bif b then x else y)),[]):=by
 subst h h';cases b<;>rfl
def akg (n:Nat) (hn:30<=n) (t:TR):T n 69 [.agg [iC t.k,sC t.nm,iC t.n,sC t.tx,iC t.x,iC t.y]] []=some (.one (bC (uA t)),[]):=by
 obtain⟨m,rfl⟩:=bl 30 n;refine ajc _ ?_;unfold uA;rw[fc,wJ (m+29) (by omega),tH];dsimp only;refine pq (pq (pq rfl rfl) rfl) (pq (pq rfl rfl) (pq (pq (pq (pq rfl rfl) rfl) rfl) (pq (pq (pq ?_ rfl) rfl) (pq (pq rfl rfl) rfl))));exact fW (λb=>(some (V.one (bC b),[]):OR)) (V2.2 (show ae t.tx.length<=24↔t.tx.length<=24 by rw[nh];omega))
def ar4 {R:Type} (z:Bool) (K:aq [.bool]->Option R):bR [.bool] (List.take 1 (List.drop 0 [.bool z])) K=K (z,()):=rfl
section
variable (x0:Bool) (l:List TR)
abbrev xA (x0:Bool) (l:List TR):aq [.tg 6]:=((.im x0,l.map cR),())
abbrev uq (m:List Bool):aq [.tg 1]:=((.own,m.map λb=>[D.bool b]),())
abbrev xy:aq kF:=((),())
def aqW (b:Bool) (m:List Bool) {R:Type} (K:Bool×aq [.tg 6]×aq [.tg 1]×aq kF×Unit->Option R) :
 aA H0 (some (.one (bC b),[bx [.tg 6] (xA x0 l),bx [.tg 1] (uq m),bx kF xy])) K=K (b,xA x0 l,uq m,xy,()):=rfl
abbrev OI (r:Bool×List Bool):OR:=some (.one (bC r.1),[bx [.tg 6] (xA x0 l),bx [.tg 1] (uq r.2),bx kF xy])
def IW (n:Nat) (rc:WF) (d:Int):Prop:=∀(c:Nat) (m:List Bool),c < l.length->m.length=l.length->
 T n 67 [.one (iC (c:Int)),.one (iC d),pE,.one (.ptr (.e 1) 0 0),.one (.ptr (.e 2) 0 0)] [bx [.tg 6] (xA x0 l),bx [.tg 1] (uq m),bx kF xy]=OI x0 l (rc c d m)
variable {x0 l}
def it (n q k:Nat) (rc:WF) (a:Nat) (d:Int) (hd : -1000 < d/\d < 1000) (hw:IW x0 l n rc (d+1)) (ha:a < l.length) {x2 x3 x4} (m:List Bool) (hm:m.length=l.length) (ops:Int) (L R:Int) (i:Nat) (to:Int)
  (hi:(i=0/\to=L)\/(i=1/\to=R)) :
  DK (T n) q x2 x3 x4 (k+1) (a:Int) d (xA x0 l) (uq m) xy ops [[.int .i64 L],[.int .i64 R]] 2 (i:Int) =
   bif (cU rc ops i to a d m).1 then DK (T n) q x2 x3 x4 k (a:Int) d (xA x0 l) (uq (cU rc ops i to a d m).2) xy ops [[.int .i64 L],[.int .i64 R]] 2 ((i+1:Nat):Int)
   else OI x0 l (false,(cU rc ops i to a d m).2):=by
 rw[abg];have ZX:i < 2:=by omega
 rw[dO (aM (by omega))];have hr:([[.int .i64 L],[.int .i64 R]]:RR)[i]? = some [.int .i64 to]:=by
  rcases hi with⟨rfl,rfl⟩ | ⟨rfl,rfl⟩<;>rfl
 refine rz (v:=(to,())) rfl hr (cp 1) rfl ?_;dsimp only;have w1:ak ((i:Int)+1)=((i+1:Nat):Int):=EG i (by omega);rw[w1];unfold cU;by_cases h1:(i:Int)>=ops
 ·rw[dO (aM h1),dO (aM h1)];by_cases h2:to = -1
  ·subst h2;rw[dy (by decide)];rfl
  ·rw[dO (by simpa using h2),bm h2];rfl
 ·rw[dy (bm h1),dy (bm h1)];by_cases h2:to < 0
  ·rw[dO (aM h2),dO (aM h2)];rfl
  ·rw[dy (bm h2),dy (bm h2)];by_cases h3:to>=(a:Int)
   ·rw[dO (aM h3),dO (aM h3)];rfl
   ·rw[dy (bm h3),dy (bm h3)];have e1:ak (d+1)=d+1:=by show IntKind.wrap .i64 _=_;rw[wrap_i64 (by omega) (by omega)]
    have e2:to=((to.toNat:Nat):Int):=by omega
    have:=hw to.toNat m (by omega) hm;rw[<-e2] at this;rw[e1];refine(fW (λo=>aA H0 o _) this).trans ?_;rw[aqW];dsimp only;cases (rc to.toNat (d+1) m).1<;>rfl
def UW {rc:WF} (hl:∀c d m,m.length=l.length->(rc c d m).2.length=l.length) (ops i to:Int) (a:Nat) (d:Int) (m:List Bool) (hm:m.length=l.length):(cU rc ops i to a d m).2.length=l.length:=by
 unfold cU;cases decide (i>=ops)
 ·cases decide (to < 0)
  ·cases decide (to>=(a:Int))
   ·exact hl _ _ _ hm
   ·exact hm
  ·exact hm
 ·exact hm
def afN:∀(f:Nat) (c:Nat) (d:Int) (m:List Bool),m.length=l.length->(wk l f c d m).2.length=l.length
 | 0,c,d,m,hm=>hm
 | f+1,c,d,m,hm=>by
  have ih:=afN f;show (Bu (wk l f) l c d m).2.length=_;unfold Bu;cases l[c]? with
  | none=>exact hm
  | some t=>
   dsimp only;cases m.getD c false with
   | true=>exact hm
   | false=>
    cases decide (d > 24) with
    | true=>exact hm
    | false=>
     cases decide (jf t.k < 0) with
     | true=>exact hm
     | false=>
      cases !(uA t) with
      | true=>exact hm
      | false=>
       have h1:=UW ih (jf t.k) 0 t.x c d (m.set c true) (by simpa using hm);dsimp only[cond_false];cases (cU (wk l f) (jf t.k) 0 t.x c d (m.set c true)).1 with
       | true=>exact UW ih _ _ _ _ _ _ h1
       | false=>exact h1
def afI:∀(f:Nat) (d:Int),1<=d->d<=25->26<=(f:Int)+d->∀n,60+f<=n->IW x0 l n (wk l f) d
 | 0,d,h1,h2,h3,n,hn=>by omega
 | f+1,d,h1,h2,h3,n,hn=>by
  intro a m ha hm;obtain⟨n,rfl⟩:∃n',n=n'+60:=⟨n - 60,by omega⟩
  refine aja _ ?_;have RW:l[a]? = some l[a]:=gE ha;generalize l[a]=t at RW;have Rx:m[a]? = some (m.getD a false):=by
   rw[nY,gE (by omega)];rfl
  refine xe (fZ (v:=(t.k,t.nm,t.n,t.tx,t.x,t.y,())) rfl (show (l.map cR)[a]? = some (cR t) by rw[bQ,RW];rfl) (cp 6) rfl ?_);dsimp only;refine Bk (aqb (n+59) (by omega) t.k) (mG (rz (v:=(m.getD a false,())) rfl (show (m.map λb=>[D.bool b])[a]? = some [D.bool (m.getD a false)] by rw[bQ,Rx];rfl) (cp 1) rfl ?_));dsimp only;show _=OI x0 l (Bu (wk l f) l a d m);unfold Bu;rw[RW];dsimp only;cases m.getD a false with
  | true=>rfl
  | false=>
   rw[cond_false,cond_false];by_cases g1:d > 24
   ·rw[dO (aM g1),dO (aM g1)]
   ·rw[dy (bm g1),dy (bm g1)];by_cases g2:jf t.k < 0
    ·rw[dO (aM g2),dO (aM g2)]
    ·rw[dy (bm g2),dy (bm g2),XG,akg (n+59) (by omega),tH];dsimp only;cases uA t with
     | false=>rfl
     | true=>
      rw[dy (show (!true)=false from rfl),dy (show (!true)=false from rfl),ao4];dsimp only[zZ];rw[Eb _ rfl];refine(oo (aM (by rw[cX];omega))).trans ?_;refine(qO (b:=[D.bool (m.getD a false)]) _ (by rw[cQ,bQ,Rx];rfl)).trans ?_;refine(oo rfl).trans ?_;rw[ar4];have Km:bS (m.map λb=>[D.bool b]) (0+a) 0 (D.bool true)=(m.set a true).map λb=>[D.bool b]:=by
       unfold bS;rw[cQ,vx];congr 1;rw[nY,bQ,Rx];rfl
      rw[Km];have hw:IW x0 l (n+59) (wk l f) (d+1):=afI f (d+1) (by omega) (by omega) (by omega) (n+59) (by omega);have oE:(m.set a true).length=l.length:=by simpa using hm
      have e0:=it (n+59) (n+59) (n+58) (wk l f) a d (by omega) hw ha (x2:=xA x0 l) (x3:=uq m) (x4:=xy) (m.set a true) oE (jf t.k) t.x t.y 0 t.x (.inl ⟨rfl,rfl⟩);refine e0.trans ?_;have ka:=UW (afN f) (jf t.k) 0 t.x a d (m.set a true) oE;rw[show ((0:Nat):Int)=0 from rfl] at *;generalize cU (wk l f) (jf t.k) 0 t.x a d (m.set a true)=r at ka ⊢;cases r.1 with
      | false=>rfl
      | true=>
       rw[ua,ua];have e1:=it (n+59) (n+59) (n+57) (wk l f) a d (by omega) hw ha (x2:=xA x0 l) (x3:=uq m) (x4:=xy) r.2 ka (jf t.k) t.x t.y 1 t.y (.inr ⟨rfl,rfl⟩);refine e1.trans ?_;rw[show ((1:Nat):Int)=1 from rfl];generalize kQ:cU (wk l f) (jf t.k) 1 t.y a d r.2=r2;cases h:r2.1 with
       | false=>rw[cond_false];cases r2;subst h;rfl
       | true=>
        rw[ua,abg];rw[dy (by decide)];cases r2;subst h;rfl
def pP (l:List TR) (root:Int):Bool:=decide (l.length<=160)&&(decide (0<=root)&&(decide (root < l.length)&&(wk l 25 root.toNat 1 (List.replicate l.length false)).1))
def Hq (root:Int) (n:Nat) (hn:100<=n):T n 25 [.one (lC (.im x0) 6 (l.map cR)),.one (iC root)] []=some (.one (bC (pP l root)),[]):=by
 obtain⟨n,rfl⟩:∃n',n=n'+100:=⟨n - 100,by omega⟩
 refine ai' _ ?_;unfold pP;rw[cX,nh];by_cases h1:l.length<=160
 ·rw[dy (bm (by omega)),aM h1];by_cases h2:0<=root
  ·rw[dy (bm (by omega)),aM h2];by_cases h3:root < l.length
   ·rw[dy (bm (by omega)),aM h3,ao3];dsimp only[zZ];refine(oo ?_).trans ?_
    ·rw[cX,aM (cp _),aM (by omega),aM (by omega)];cases (l.length==0)<;>rfl
    ·have hw:IW x0 l (n+99) (wk l 25) 1:=afI 25 1 (by omega) (by omega) (by omega) (n+99) (by omega);have h:=hw root.toNat (List.replicate l.length false) (by omega) (by simp);rw[show ((root.toNat:Nat):Int)=root by omega] at h;have e:uq (List.replicate l.length false)=((.own,List.replicate (l.map cR).length [D.bool false]),()):=by
      unfold uq;rw[List.map_replicate,cX]
     rw[e] at h;refine(fW (λo=>aA H0 o _) h).trans ?_;rfl
   ·rw[dO (aM (by omega)),bm h3];rfl
  ·rw[dO (aM (by omega)),bm h2];rfl
 ·rw[dO (aM (by omega)),bm h1];rfl
end
end
end Go.Proofs.YtfmpdgeiodnnfaaGreatDoor
