/- A part of the proof. -/
import Derived.Test.YtfmpdgeiodnnfaaGreatDoorL1
import Derived.Test.YtfmpdgeiodnnfaaGreatDoorL5
import Derived.Test.YtfmpdgeiodnnfaaGreatDoorL6
import Derived.Test.YtfmpdgeiodnnfaaGreatDoorL7
import Derived.Test.YtfmpdgeiodnnfaaGreatDoorL8
import Derived.KernelRfl
import Derived.Test.YtfmpdgeiodnnfaaGreatDoorL3
set_option maxRecDepth 100000
set_option maxHeartbeats 1000000
set_option linter.all false
namespace Go.ax
section
theorem pF (n:Nat):ae n=(n:Int):=rfl
theorem ae2 (n:Nat):cp (n:Int)=some n:=by simp [cp]
theorem Ig {x:Int} (h:0≤x):cp x=some x.toNat:=by simp [cp,h]
theorem wrap_i64 {x:Int} (h : -9223372036854775808≤x) (h':x≤9223372036854775807):IntKind.wrap .i64 x=x:=by
 simp [IntKind.wrap,IntKind.signed,IntKind.bits];omega
section
variable (T:Nat→Option ll) (pH:bW)
def U' (f:Nat) (vs:List V) (bs:List (List C)) (r:V×List (List C)):Prop:=∃N,∀n,N≤n→nF T pH n f vs bs=some r
theorem U'.of {T:Nat→Option ll} {pH:bW} {f:Nat} {k:uW} {an:iS} {vs:List V} {bs:List (List C)} {r:V×List (List C)} (hT:T f=some k.fn)
  (h:∃N,∀n,N≤n→ED an (nF T pH n) n k vs bs=some r):U' T pH f vs bs r:=by
 obtain ⟨N,h⟩:=h;refine ⟨N+1,fun n hn=>?_⟩;cases n with
 | zero=>omega
 | succ n=>
  show (match T f with | some fn=>vb (nF T pH n) n fn vs bs | none=>pH f vs bs)=some r;rw [hT];exact XH (h n (by omega))
end
end
end Go.ax
namespace Go.Proofs.YtfmpdgeiodnnfaaGreatDoor.PT
section
open Go Go.ax
abbrev BB:=List UInt8
abbrev RR:=List (List D)
inductive TT where
 | lf (k:Int) (nm:BB) (n:Int) (tx:BB)
 | un (k:Int) (a:TT)
 | bi (k:Int) (a b:TT)
def row (k:Int) (nm:BB) (n:Int) (tx:BB) (x y:Int):List D:=[.int .i64 k,.str nm,.int .i64 n,.str tx,.int .i64 x,.int .i64 y]
def TT.size:TT→Nat
 | .lf .. => 1
 | .un _ a=>a.size+1
 | .bi _ a b=>a.size+b.size+1
def TT.deep:TT→Nat
 | .lf .. => 1
 | .un _ a=>a.deep+1
 | .bi _ a b=>max a.deep b.deep+1
def TT.rows:TT→Nat→RR
 | .lf k nm n tx,_=>[row k nm n tx (-1) (-1)]
 | .un k a,b=>a.rows b++[row k [] 0 [] ((b+a.size:Nat) - 1) (-1)]
 | .bi k a c,b=>a.rows b++c.rows (b+a.size)++[row k [] 0 [] ((b+a.size:Nat) - 1) ((b+a.size+c.size:Nat) - 1)]
def TT.at_ (l:RR):TT→Int→Prop
 | .lf k nm n tx,i=>∃j:Nat,i=j∧l[j]? = some (row k nm n tx (-1) (-1))
 | .un k a,i=>∃(j:Nat) (x:Int),i=j∧l[j]? = some (row k [] 0 [] x (-1))∧a.at_ l x
 | .bi k a c,i=>∃(j:Nat) (x y:Int),i=j∧l[j]? = some (row k [] 0 [] x y)∧a.at_ l x∧c.at_ l y
def rB (k:Int):BB:=
 if k=6 then [43] else if k=7 then [45] else if k=8 then [42] else if k=9 then [47] else if k=10 then [109,111,100] else if k=11 then [61,61] else if k=12 then [60]
 else if k=13 then [97,110,100] else if k=14 then [111,114] else []
def tN (k:Int):BB:=if k=16 then [108,101,110] else if k=17 then [97,116] else if k=18 then [112,117,115,104] else [106,111,105,110]
def xD (k:Int):Bool:=decide (6≤k)&&decide (k≤14)
end
end Go.Proofs.YtfmpdgeiodnnfaaGreatDoor.PT
namespace Go.Proofs.YtfmpdgeiodnnfaaGreatDoor
section
open Go Go.ax
section
variable {R:Type}
theorem IK (ds:List DS) (p:au ds):sc [ds] [bx ds p]=some (p,()):=by
 have h:=adY ds p;unfold T4 at h;simp only [sc,h]
theorem pO {vs:VS} {ds:List DS} {o:OR} {x:V} {v:vs.T} {p:au ds} {K:(RS.val vs [ds]).T→Option R} {z:Option R} (h:o=some (x,[bx ds p])) (hd:pj vs x=some v) (h2:K (v,p,())=z):aG (.val vs [ds]) o K=z:=by
 subst h;simp only [aG,ik,hd,IK];exact h2
theorem DM {vs:VS} {o:OR} {x:V} {v:vs.T} {K:(RS.val vs []).T→Option R} {z:Option R} (h:o=some (x,[])) (hd:pj vs x=some v) (h2:K (v,())=z):aG (.val vs []) o K=z:=by
 subst h;simp only [aG,ik,hd,sc];exact h2
theorem ap8 {vs:List VS} {ds:List DS} {o:OR} {x:List V} {v:yN vs} {p:au ds} {K:(RS.aq vs [ds]).T→Option R} {z:Option R} (h:o=some (.aq x,[bx ds p])) (hd:y9 vs x=some v) (h2:K (v,p,())=z):aG (.aq vs [ds]) o K=z:=by
 subst h;simp only [aG,ik,hd,IK];exact h2
theorem nX {o:OR} {b:Bool} {K:(RS.val (.one .bool) []).T→Option R} {z:Option R} (h:o=some (.one (bC b),[])) (h2:K (b,())=z):aG (.val (.one .bool) []) o K=z:=DM h rfl h2
theorem ap4 {o:OR} {b:Int} {K:(RS.val (.one (.int .i64)) []).T→Option R} {z:Option R} (h:o=some (.one (iC b),[])) (h2:K (b,())=z):aG (.val (.one (.int .i64)) []) o K=z:=DM h rfl h2
theorem tf {o:OR} {b:BB} {K:(RS.val (.one .str) []).T→Option R} {z:Option R} (h:o=some (.one (sC b),[])) (h2:K (b,())=z):aG (.val (.one .str) []) o K=z:=DM h rfl h2
theorem DL {k:Nat} {o:OR} {b:Bool} {l:RR} {K:(RS.val (.one (.im k)) []).T→Option R} {z:Option R} (h:o=some (.one (lC (.im b) k l),[])) (h2:K ((b,l),())=z):aG (.val (.one (.im k)) []) o K=z:=
 DM h (by simp [pj,u7,ko]) h2
theorem lX {ds:List DS} {o:OR} {b:Int} {p:au ds} {K:(RS.val (.one (.int .i64)) [ds]).T→Option R} {z:Option R} (h:o=some (.one (iC b),[bx ds p])) (h2:K (b,p,())=z):aG (.val (.one (.int .i64)) [ds]) o K=z:=pO h rfl h2
theorem ap6 {ds:List DS} {o:OR} {b:BB} {p:au ds} {K:(RS.val (.one .str) [ds]).T→Option R} {z:Option R} (h:o=some (.one (sC b),[bx ds p])) (h2:K (b,p,())=z):aG (.val (.one .str) [ds]) o K=z:=pO h rfl h2
theorem adR {ds:List DS} {k:Nat} {o:OR} {b:Bool} {l:RR} {p:au ds} {K:(RS.val (.one (.im k)) [ds]).T→Option R} {z:Option R} (h:o=some (.one (lC (.im b) k l),[bx ds p])) (h2:K ((b,l),p,())=z):aG (.val (.one (.im k)) [ds]) o K=z:=
 pO h (by simp [pj,u7,ko]) h2
theorem T1 {ds:List DS} {o:OR} {p:au ds} {K:(RS.aq [] [ds]).T→Option R} {z:Option R} (h:o=some (.aq [],[bx ds p])) (h2:K ((),p,())=z):aG (.aq [] [ds]) o K=z:=ap8 h rfl h2
theorem ei {b:Bool} {x z:Option R} (h:b=true) (h2:x=z):gd b x=z:=by subst h;exact h2
theorem dD {b:Bool} {x y z:R} (h:b=true) (h2:x=z):(bif b then x else y)=z:=by subst h;exact h2
theorem bU {b:Bool} {x y z:R} (h:b=false) (h2:y=z):(bif b then x else y)=z:=by subst h;exact h2
theorem qo {β:Type} {o:Option β} {b:β} {K:β→Option R} {z:Option R} (h:o=some b) (h2:K b=z):aH o K=z:=by subst h;exact h2
theorem Ie (n:Nat):cp (n:Int)=some n:=by unfold cp;simp
theorem Ig {z:Int} {n:Nat} (h:z=(n:Int)):cp z=some n:=by subst h;exact Ie n
theorem bJ (n:Nat):ae n=(n:Int):=rfl
theorem uH {b:Bool} {f:Tag→Option R} {z:Option R} (h:f (.im b)=z):zZ (.im b) f=z:=h
theorem mE {f:Tag→Option R} {z:Option R} (h:f .own=z):zZ .own f=z:=h
theorem jr {n:Nat} {x z:Option R} (h:n≤100000000000000) (h2:x=z):aN n x=z:=by
 unfold aN;rw [show decide (n≤9223372036854775807)=true from bf (by omega)];exact h2
end
theorem yf {ds:List DS} {c n:Nat} {L:RR} {i:Nat} {r:List D} {v:au ds} {K:au ds→OR} {z:OR} (h:L[i]? = some r) (hl:c+n≤r.length) (hd:dS ds (List.take n (List.drop c r))=some v) (h2:K v=z):rA ds c n L i K=z:=by
 unfold rA;refine qo h ?_;rw [show decide (n≤(List.drop c r).length)=true from bf (by simp;omega)];simp only [HR,cF,hd];exact h2
theorem iI {ds:List DS} {c n:Nat} {L:RR} {x:Int} {i:Nat} {r:List D} {v:au ds} {K:au ds→OR} {z:OR} (hx:x=(i:Int)) (h:L[i]? = some r) (hl:c+n≤r.length) (hd:dS ds (List.take n (List.drop c r))=some v) (h2:K v=z):iR ds c n L x K=z:=by
 unfold iR;exact qo (Ig hx) (yf h hl hd h2)
theorem sK {ds:List DS} {c n:Nat} {L:RR} {x:Int} {i:Nat} {r:List D} {v:au ds} {K:au ds→OR} {z:OR} (hx:x=(i:Int)) (h:L[i]? = some r) (hl:c+n≤r.length) (hd:dS ds (List.take n (List.drop c r))=some v) (h2:K v=z):iV ds c n L x K=z:=by
 unfold iV;refine qo (Ig hx) (ei (bf (cB.1 h).1) (qo (b:=r) (by rw [dc];exact h) (ei (bf hl) ?_)));simp only [cF,hd];exact h2
theorem DQ {z:Int} (h0 : -9223372036854775808≤z) (h1:z≤9223372036854775807):ak z=z:=wrap_i64 h0 h1
theorem bm (k n:Nat) (h:k≤n:=by omega):∃r,n=r+k:=⟨n - k,by omega⟩
theorem cG {m k:Nat} (h:k≤m) (h0:0 < k:=by omega):∃j,m=j+1:=⟨m - 1,by omega⟩
theorem bM {A B:Type} {f:A→B} {l:List A} {i:Nat} (h:decide ((i:Int) < ae (l.map f).length)=true):i < l.length:=by
 have g:=rU h;rw [bJ,cf] at g;omega
theorem gE {A:Type} {l:List A} {i:Nat} (h:i < l.length):l[i]? = some l[i]:=ke h
theorem fY {z:Int} {n:Nat} (h:z=n:=by omega) (hn:n≤1000000000000000000:=by omega):ak z=(n:Int):=by subst h;exact DQ (by omega) (by omega)
theorem wI (i:Nat) (h:i+1≤1000000000000000000:=by omega):ak ((i:Int)+1)=((i+1:Nat):Int):=fY rfl h
theorem dr (l:RR):whole l=l:=by unfold whole;simp
section
variable {R:Type}
theorem Aw (b:Bool) (K:Bool×Unit→Option R):aG (.val (.one .bool) []) (some (.one (bC b),[])) K=K (b,()):=rfl
theorem wo (b:BB) (K:BB×Unit→Option R):aG (.val (.one .str) []) (some (.one (sC b),[])) K=K (b,()):=rfl
theorem ow {b:Bool} {x:Option R} (h:b=true):gd b x=x:=by subst h;rfl
theorem ez {b:Bool} {x y:R} (h:b=true):(bif b then x else y)=x:=by subst h;rfl
theorem dW {b:Bool} {x y:R} (h:b=false):(bif b then x else y)=y:=by subst h;rfl
theorem Mh {z:Int} {n:Nat} (K:Nat→Option R) (h:z=(n:Int)):aH (cp z) K=K n:=by subst h;rw [ae2];rfl
theorem qO {β:Type} {o:Option β} {b:β} (K:β→Option R) (h:o=some b):aH o K=K b:=by subst h;rfl
end
structure TK where
 k:Int
 s:BB
 a:Int
end
section
open Go Go.ax PT
def FV (s:BB):Bool:=(s==[97,110,100])||((s==[97,115])||((s==[97,116])||((s==[98,111,111,108])||((s==[99,97,108,108])||((s==[99,104,97,110])||((s==[100,114,111,112])||((s==[101,108,115,101])||((s==[101,109,112,116,121])||((s==[101,110,100])||((s==[102,97,105,108])||((s==[102,97,108,115,101])||((s==[102,114,111,109])||((s==[104,101,97,114])||((s==[105,102])||((s==[105,110,116])||((s==[106,111,105,110])||((s==[108,101,110])||((s==[108,101,116])||((s==[108,105,115,116])||((s==[108,111,99,97,108])||((s==[108,111,115,116])||((s==[109,111,100])||((s==[110,111,116])||((s==[111,112,101,110])||((s==[111,114])||((s==[112,114,105,110,116])||((s==[112,114,111,99])||((s==[112,114,111,116,111,99,111,108])||((s==[112,117,115,104])||((s==[114,111,108,101,115])||((s==[115,97,121])||((s==[115,112,97,119,110])||((s==[115,116,111,112])||((s==[116,101,120,116])||((s==[116,111])||((s==[116,114,117,101])||((s==[117,110,105,116])||((s==[119,105,116,104])||false))))))))))))))))))))))))))))))))))))))
theorem ae5 (b c:Bool):(bif b then rT else some (.one (.d (.bool c)),[]))=(some (.one (.d (.bool (b||c))),[]):OR):=by cases b<;>rfl
theorem akg (n:Nat) (hn:2≤n) (s:BB):T n 116 [.one (sC s)] []=some (.one (bC (FV s)),[]):=by
 obtain ⟨m,rfl⟩:=tG hn;refine afY _ ?_;rw [akp];rw [show rF=(some (.one (.d (.bool false)),[]):OR) from rfl];simp only [ae5];rfl
def isLet (c:UInt8):Bool:=decide (97≤c.toNat)&&decide (c.toNat≤122)
def q8 (c:UInt8):Bool:=decide (48≤c.toNat)&&decide (c.toNat≤57)
theorem acD (x:Nat) (lo hi:Int):(bif decide (ae x≥lo) then (some (.one (bC (decide (ae x≤hi))),[]):OR) else rF)=some (.one (bC (decide (lo≤ae x)&&decide (ae x≤hi))),[]):=by
 by_cases h:lo≤ae x
 ·rw [ez (by simpa using h),bf h];rfl
 ·rw [dW (by simpa using h),cg h];rfl
theorem anC (c:UInt8):(decide ((97:Int)≤ae c.toNat)&&decide (ae c.toNat≤(122:Int)))=isLet c:=by
 unfold isLet;rw [pF];congr 1<;>exact U5.2 (by omega)
theorem afO (c:UInt8):(decide ((48:Int)≤ae c.toNat)&&decide (ae c.toNat≤(57:Int)))=q8 c:=by
 unfold q8;rw [pF];congr 1<;>exact U5.2 (by omega)
theorem abg (n:Nat) (hn:1≤n) (c:UInt8):T n 115 [.one (.d (.int .u8 (ae c.toNat)))] []=some (.one (bC (isLet c)),[]):=by
 obtain ⟨m,rfl⟩:=tG hn;refine af3 _ ?_;rw [←anC];exact acD _ _ _
theorem anT (n:Nat) (hn:1≤n) (c:UInt8):T n 117 [.one (.d (.int .u8 (ae c.toNat)))] []=some (.one (bC (q8 c)),[]):=by
 obtain ⟨m,rfl⟩:=tG hn;refine af2 _ ?_;rw [←afO];exact acD _ _ _
end
section
open Go Go.ax PT
def qm (c:UInt8):Bool:=isLet c||q8 c
def gK:BB→Bool
 | []=>false
 | c::r=>decide (r.length+1≤12)&&isLet c && !(FV (c::r))&&r.all qm
theorem MW (i:Nat) (h:i < 1000000):ak ((i:Int)+1)=((i+1:Nat):Int):=by
 show IntKind.wrap .i64 _=_;rw [wrap_i64 (by omega) (by omega)];simp
theorem Gx (n:Nat) (hn:1≤n) (q:Nat) (s:BB) (hs:s.length < 100000):∀(k i:Nat),s.length - i < k→FY (T n) q k s (i:Int)=some (.one (bC ((s.drop i).all qm)),[])
 | 0,i,hk=>by omega
 | k+1,i,hk=>by
  rw [akq];by_cases h:i < s.length
  ·have hc:s[i]? = some s[i]:=gE h;have hd:s.drop i=s[i]::s.drop (i+1):=tA h;have ih:=Gx n hn q s hs k (i+1) (by omega);rw [hd,List.all_cons];generalize s[i]=c at hc hd;rw [ez (by simp [pF];omega),Mh _ rfl,qO _ hc,abg n hn,Aw];dsimp only;cases hl:isLet c with
   | true=>
    rw [dW (show (!true)=false from rfl),MW i (by omega),ih];simp [qm,hl]
   | false=>
    rw [ez (show (!false)=true from rfl),Mh _ rfl,qO _ hc,anT n hn,Aw];dsimp only;cases hg:q8 c with
    | true=>
     rw [dW (show (!true)=false from rfl),MW i (by omega),ih];simp [qm,hl,hg]
    | false=>
     rw [ez (show (!false)=true from rfl)];simp [qm,hl,hg]
  ·rw [dW (by simp [pF];omega),DW (by omega)];rfl
theorem vP (n:Nat) (hn:20≤n) (s:BB):T n 62 [.one (sC s)] []=some (.one (bC (gK s)),[]):=by
 obtain ⟨m,rfl⟩:=bm 20 n;refine afZ _ ?_;cases s with
 | nil=>rfl
 | cons c r=>
  have h1:ae (c::r).length=((r.length+1:Nat):Int):=by simp [pF]
  rw [h1,dW (by simp;omega)];by_cases h:r.length+1≤12
  ·rw [dW (by simp;omega),qO (o:=(c::r)[Int.toNat 0]?) (b:=c) _ rfl,abg (m+19) (by omega),Aw];dsimp only;rw [show gK (c::r)=(decide (r.length+1≤12)&&isLet c && !(FV (c::r))&&r.all qm) from rfl,bf h];cases hl:isLet c with
   | false=>rfl
   | true=>
    rw [dW (show (!true)=false from rfl),c116,akg (m+19) (by omega),Aw];dsimp only;cases hk:FV (c::r) with
    | true=>rfl
    | false=>
     rw [dW rfl,akr];rw [show (1:Int)=((1:Nat):Int) from rfl,Gx (m+19) (by omega) _ (c::r) (by simp;omega) _ _ (by simp;omega)];rfl
  ·rw [ez (by simp;omega)];rw [show gK (c::r)=(decide (r.length+1≤12)&&isLet c && !(FV (c::r))&&r.all qm) from rfl,cg h];rfl
end
section
open Go Go.ax PT
theorem Vj {n f:Nat} {vs:List V} {bs:List (List C)} {r:V×List (List C)} (ht:pM f=none) (h:Ap f vs bs=some r):T (n+1) f vs bs=some r:=by
 unfold T;simp only [nF,ht];exact h
def Ly (k:Int) (nm:BB) (n:Int) (tx:BB):Prop:=
 (k=0∧gK nm=true∧n=0∧tx=[])∨(k=1∧nm=[]∧tx=[]∧-9223372036854775808≤n∧n≤9223372036854775807)∨(k=2∧nm=[]∧tx=[]∧(n=0∨n=1))∨
  (k=3∧nm=[]∧n=0∧tx.length≤24)∨(k=4∧nm=[]∧n=0∧tx=[])∨(k=5∧nm=[]∧n=0∧tx=[])
def vX:TT→Prop
 | .lf k nm n tx=>Ly k nm n tx
 | .un k a=>(k=15∨k=16)∧vX a
 | .bi k a b=>(xD k=true∨k=17∨k=18∨k=19)∧vX a∧vX b
def yx (acc:Nat) (l:BB):Nat:=l.foldl (fun a c=>a * 10+(c.toNat - 48)) acc
theorem ad2:∀(l:BB) (acc:Nat),acc≤yx acc l
 | [],acc=>bT _
 | c::r,acc=>by
  have:=ad2 r (acc * 10+(c.toNat - 48));show acc≤yx (acc * 10+(c.toNat - 48)) r;omega
theorem abH:∀(l:BB) (acc:Nat),(∀c∈l,q8 c=true)→yx acc l≤9223372036854775808→Lib.parseUintM 18446744073709551615 acc l = .ok (yx acc l)
 | [],acc,_,_=>rfl
 | c::r,acc,hd,hv=>by
  have h1:=hd c (by simp);unfold q8 at h1;simp only [bK,fy] at h1;have h2:yx acc (c::r)=yx (acc * 10+(c.toNat - 48)) r:=rfl;have h3:=ad2 r (acc * 10+(c.toNat - 48));rw [h2] at hv ⊢;simp only [Lib.parseUintM];rw [aJ h1,az (by omega),az (by omega)];exact abH r _ (fun x hx=>hd x (by simp [hx])) hv
theorem MR (d:Nat) (h:d < 10):(UInt8.ofNat (48+d)).toNat=48+d:=by
 show (48+d) % 256=48+d;omega
theorem Q7 (d:Nat) (h:d < 10):q8 (UInt8.ofNat (48+d))=true:=by
 unfold q8;rw [MR d h];simp;omega
theorem za:∀(f u:Nat),u < 10 ^ (f+1)→(∀c∈oq f u,q8 c=true)∧yx 0 (oq f u)=u∧oq f u≠[]∧(oq f u).length≤f+1
 | 0,u,h=>by
  have h1:u < 10:=by simpa using h
  refine ⟨fun c hc=>?_,?_,by simp [oq],by simp [oq]⟩
  ·simp [oq] at hc;subst hc;have:=Q7 u h1;simpa using this
  ·show 0 * 10+((UInt8.ofNat (48+u)).toNat - 48)=u;rw [MR u h1];omega
 | f+1,u,h=>by
  simp only [oq];by_cases h1:u < 10
  ·rw [aJ h1];refine ⟨fun c hc=>?_,?_,by simp,by simp⟩
   ·simp at hc;subst hc;have:=Q7 u h1;simpa using this
   ·show 0 * 10+((UInt8.ofNat (48+u)).toNat - 48)=u;rw [MR u h1];omega
  ·rw [az h1];have ih:=za f (u / 10) (by rw [U0] at h;omega);refine ⟨fun c hc=>?_,?_,by simp,by simp;omega⟩
   ·rw [dC] at hc;rcases hc with hc | hc
    ·exact ih.1 c hc
    ·rw [uO] at hc;subst hc;exact Q7 (u % 10) (by omega)
   ·unfold yx at ih ⊢;rw [List.foldl_append,ih.2.1];show u / 10 * 10+((UInt8.ofNat (48+u % 10)).toNat - 48)=u;rw [MR (u % 10) (by omega)];omega
theorem Xk (f u:Nat) (h:u < 10 ^ (f+1)) (hu:u≤9223372036854775808):Lib.parseUintB 64 (oq f u) = .ok u:=by
 have h1:=za f u h;unfold Lib.parseUintB;rw [az h1.2.2.1,show (2:Nat) ^ 64 - 1=18446744073709551615 by decide,abH _ _ h1.1 (by rw [h1.2.1];exact hu),h1.2.1]
theorem aol {n:Int} (h0 : -9223372036854775808≤n) (h1:n≤9223372036854775807):Lib.parseIntB 64 (pC n) = .ok n:=by
 unfold pC;have e:(2:Nat) ^ (64 - 1)=9223372036854775808:=by decide
 have e2:(10:Nat) ^ (19+1)=100000000000000000000:=by decide
 by_cases h:n < 0
 ·rw [aJ h,Lib.parseIntB_minus,Xk 19 n.natAbs (by rw [e2];omega) (by omega)];simp only [Lib.signedC,e];rw [az (by omega)];congr 1;omega
 ·rw [az h];have hd:=za 19 n.toNat (by rw [e2];omega);have hn:=Xk 19 n.toNat (by rw [e2];omega) (by omega);cases hc:oq 19 n.toNat with
  | nil=>exact absurd hc hd.2.2.1
  | cons c r=>
   rw [hc] at hd hn;have h3:=hd.1 c (by simp);unfold q8 at h3;simp only [bK,fy] at h3;rw [Lib.parseIntB_plain 64 c r (by omega) (by omega),hn];simp only [Lib.signlessC,e];rw [az (by omega)];congr 1;omega
theorem akb {n:Int} (h0 : -9223372036854775808≤n) (h1:n≤9223372036854775807):(pC n).length≤21:=by
 have e2:(10:Nat) ^ (19+1)=100000000000000000000:=by decide
 unfold pC;by_cases h:n < 0
 ·rw [aJ h];have:=(za 19 n.natAbs (by rw [e2];omega)).2.2.2;simp;omega
 ·rw [az h];have:=(za 19 n.toNat (by rw [e2];omega)).2.2.2;omega
end
section
open Go Go.ax PT
def B6:BB:=[48,49,50,51,52,53,54,55,56,57,97,98,99,100,101,102]
def py (v:Nat):UInt8:=B6.getD v 0
def qc (c:UInt8):BB:=if c.toNat=34∨c.toNat=92 then [92,c] else if c.toNat=10 then [92,110] else if c.toNat < 32∨126 < c.toNat then [92,120,py (c.toNat / 16),py (c.toNat % 16)] else [c]
def ye (s:BB):BB:=34::(s.flatMap qc++[34])
def gn:TT→BB
 | .lf k nm n tx=>if k=0 then nm else if k=1 then pC n else if k=2 then (if n=1 then [116,114,117,101] else [102,97,108,115,101])
  else if k=3 then ye tx else if k=4 then [101,109,112,116,121] else [117,110,105,116]
 | .un k a=>if k=15 then [40,110,111,116,32]++gn a++[41] else (tN k++[40])++gn a++[41]
 | .bi k a b=>if xD k=true then [40]++gn a++([32]++rB k++[32])++gn b++[41] else (tN k++[40])++gn a++[44,32]++gn b++[41]
theorem Vo {p:Nat→Bool} {N:Nat} (h:(List.range N).all p=true) (n:Nat) (hn:n < N):p n=true:=lH.1 h n (tE.2 hn)
def YO (n:Nat):Bool:=decide (cp ((ae n).fdiv ((2:Int) ^ min 4 IntKind.u8.bits))=some (n / 16))&&decide (B6[n / 16]? = some (py (n / 16))) &&
 decide (B6[(w8 (ae (BitVec.ofInt IntKind.u8.bits (ae n) &&& BitVec.ofInt IntKind.u8.bits (15:Int)).toNat)).toNat]? = some (py (n % 16)))
theorem ajk:(List.range 256).all YO=true:=by kernel_rfl
theorem ajl (c:UInt8):cp ((ae c.toNat).fdiv ((2:Int) ^ min 4 IntKind.u8.bits))=some (c.toNat / 16)∧B6[c.toNat / 16]? = some (py (c.toNat / 16))∧
  B6[(w8 (ae (BitVec.ofInt IntKind.u8.bits (ae c.toNat) &&& BitVec.ofInt IntKind.u8.bits (15:Int)).toNat)).toNat]? = some (py (c.toNat % 16)):=by
 have h:=Vo ajk c.toNat c.toNat_lt;unfold YO at h;simp only [bK,fy] at h;exact ⟨h.1.1,h.1.2,h.2⟩
theorem Hk (a b:BB):D.db (a++b)=D.db a++D.db b:=by unfold D.db;exact eg
theorem mD (a:BB):(D.db a).length=a.length:=by unfold D.db;exact cf _
theorem apO {a:BB} (h:a≠[]):(D.db a).isEmpty=false:=by cases a with | nil=>exact absurd rfl h | cons=>rfl
theorem DJ:∀b:BB,kA (D.db b)=some b
 | []=>rfl
 | c::r=>by
  show (kA (D.db r)).map (UInt8.ofNat ((c.toNat:Int).toNat) :: ·)=some (c::r);rw [DJ r];show some (UInt8.ofNat c.toNat::r)=some (c::r);rw [UInt8.ofNat_toNat]
theorem qgd (src:RR) (b:BB) (k:Nat) (hb:b≠[]) (hl:b.length+k≤100000000000000) :
  (fR 1 src (D.db b).isEmpty&&true&&true&&(D.db b).length==(D.db b).length&&true&&decide (((D.db b).length+k) * 1≤140737488355328))=true:=by
 rw [apO hb,mD,HQ,bf (by omega)];simp [fR]
theorem qg (b:BB) (k:Nat) (hl:b.length+k≤100000000000000):((D.db b).length==(D.db b).length&&true&&decide (((D.db b).length+k) * 1≤140737488355328))=true:=by
 rw [mD,HQ,bf (by omega)];rfl
theorem wgd (s b:BB) (hb:b≠[]) (hl:b.length+s.length≤100000000000000) :
  (fR 1 (D.db s) (D.db b).isEmpty&&true&&true&&(D.db b).length==(D.db b).length&&true&&decide (((D.db b).length+(D.db s).length) * 1≤140737488355328))=true:=by
 rw [mD s];exact qgd (D.db s) b s.length hb hl
theorem LC (c:UInt8) (n:Nat):(ae c.toNat==(n:Int))=decide (c.toNat=n):=by
 rw [pF];by_cases h:c.toNat=n
 ·rw [h];simp
 ·rw [cg h];simp;omega
theorem aci (n q:Nat) (s:BB) (hs:s.length < 100000):∀(k i:Nat) (b:BB),s.length - i < k→b≠[]→b.length+4 * (s.length - i)+1≤100000000000000→
  FX (T n) (q+1) k s (D.db b) (i:Int)=some (.one (sC (b++(s.drop i).flatMap qc++[34])),[])
 | 0,i,b,hk,_,_=>by omega
 | k+1,i,b,hk,hb,hl=>by
  rw [akn];by_cases h:i < s.length
  ·have hc:s[i]? = some s[i]:=gE h;have hd:s.drop i=s[i]::s.drop (i+1):=tA h;have ih:=fun (x:BB) (hx:x.length≤4)=>aci n q s hs k (i+1) (b++x) (by omega) (by simp [hb]) (by simp;omega)
   rw [hd,HE];generalize s[i]=c at hc hd;have fin:∀(x:BB),x.length≤4→x=qc c→xG (T n) (q+1) k (q+1) s (D.db b++D.db x) (i:Int) =
     some (.one (sC (b++(qc c++(s.drop (i+1)).flatMap qc)++[34])),[]):=by
    intro x hx he;rw [ako];rw [MW i (by omega),←Hk,ih x hx,he];simp
   rw [ez (by simp [pF];omega),Mh _ rfl,qO _ hc];rw [show (ae c.toNat==(34:Int))=decide (c.toNat=34) from LC c 34,show (ae c.toNat==(92:Int))=decide (c.toNat=92) from LC c 92,show (ae c.toNat==(10:Int))=decide (c.toNat=10) from LC c 10];by_cases h1:c.toNat=34
   ·rw [ez (bf h1)];refine (ow (qg b 2 (by omega))).trans ?_;exact fin [92,c] (by simp) (by unfold qc;rw [aJ (.inl h1)])
   ·rw [dW (cg h1)];by_cases h2:c.toNat=92
    ·rw [ez (bf h2)];refine (ow (qg b 2 (by omega))).trans ?_;exact fin [92,c] (by simp) (by unfold qc;rw [aJ (.inr h2)])
    ·rw [dW (cg h2)];by_cases h3:c.toNat=10
     ·rw [ez (bf h3)];refine (ow (qg b 2 (by omega))).trans ?_;exact fin [92,110] (by simp) (by unfold qc;rw [az (by omega),aJ h3])
     ·rw [dW (cg h3)];obtain ⟨x1,x2,x3⟩:=ajl c;by_cases h4:c.toNat < 32
      ·rw [ez (bf (show ae c.toNat < (32:Int) by rw [pF];omega)),qO _ x1];refine (qO _ x2).trans ?_;refine (qO _ x3).trans ?_;refine (ow (qg b 4 (by omega))).trans ?_;exact fin [92,120,py (c.toNat / 16),py (c.toNat % 16)] (by simp) (by unfold qc;rw [az (by omega),az h3,aJ (.inl h4)])
      ·rw [dW (cg (show ¬ ae c.toNat < (32:Int) by rw [pF];omega))];by_cases h5:126 < c.toNat
       ·rw [ez (bf (show ae c.toNat > (126:Int) by rw [pF];omega)),qO _ x1];refine (qO _ x2).trans ?_;refine (qO _ x3).trans ?_;refine (ow (qg b 4 (by omega))).trans ?_;exact fin [92,120,py (c.toNat / 16),py (c.toNat % 16)] (by simp) (by unfold qc;rw [az (by omega),az h3,aJ (.inr h5)])
       ·rw [dW (cg (show ¬ ae c.toNat > (126:Int) by rw [pF];omega))];refine (ow (qg b 1 (by omega))).trans ?_;exact fin [c] (by simp) (by unfold qc;rw [az (by omega),az h3,az (by omega)])
  ·rw [dW (by simp [pF];omega),DW (by omega)];refine (ow (qg b 1 (by omega))).trans ?_;refine (qO (b:=b++[34]) _ ?_).trans ?_
   ·exact (fW kA (Hk b [34]).symm).trans (DJ _)
   ·simp
theorem aoK (n:Nat) (hn:2≤n) (s:BB) (hs:s.length+1 < n) (h2:s.length < 10000):T n 161 [.one (sC s)] []=some (.one (sC (ye s)),[]):=by
 obtain ⟨m,rfl⟩:=bm 2 n;refine afW _ ?_;have:=aci (m+1) m s (by omega) (m+1) 0 [34] (by omega) (by simp) (by simp;omega);exact (show FX (T (m+1)) (m+1) (m+1) s [[D.int .u8 34]] 0=_ from this).trans (by simp [ye])
def MJ (b:BB):Tag×RR:=match b with | []=>(.im true,[]) | _=>(.own,D.db b)
abbrev bB (b:BB):au bl:=((),MJ b,())
theorem ry (z:Int) (p:au bl) {R:Type} (K:(Int×Bool×Unit)×au bl×Unit→Option R):aG Tg (some (.aq [.one (iC z),.one .fQ],[bx bl p])) K=K ((z,true,()),p,()):=by
 obtain ⟨u,⟨t,r⟩,u2⟩:=p;cases u;cases u2;rfl
theorem rz (p:au bl) {R:Type} (K:Unit×au bl×Unit→Option R):aG j8 (some (.aq [],[bx bl p])) K=K ((),p,()):=by
 obtain ⟨u,⟨t,r⟩,u2⟩:=p;cases u;cases u2;rfl
theorem cc' (n:Nat) (hn:1≤n) (p:au bl):T n 91 [pE] [bx bl p]=some (.aq [],[bx bl p]):=by
 obtain ⟨m,rfl⟩:=tG hn;refine Vj rfl ?_;obtain ⟨u,⟨t,r⟩,u2⟩:=p;cases u;cases u2;rfl
theorem rN (n:Nat) (hn:2≤n) (s b:BB) (hl:b.length+s.length≤100000000000000):T n 35 [pE,.one (sC s)] [bx bl (bB b)]=some (.aq [.one (iC (s.length:Int)),.one .fQ],[bx bl (bB (b++s))]):=by
 obtain ⟨m,rfl⟩:=tG hn;refine OU _ ?_;rw [c91,cc' (m+1) (by omega),rz];cases b with
 | nil=>
  dsimp only [MJ,zZ];refine (ow ?_).trans ?_
  ·rw [mD,bf (by simp at hl;omega)];simp [fR]
  ·cases s with
   | nil=>rfl
   | cons c r=>rfl
 | cons c r=>
  dsimp only [MJ,zZ];refine (ow ?_).trans ?_
  ·exact wgd s (c::r) (by simp) hl
  ·rw [←Hk];rfl
theorem aj9 (n:Nat) (hn:1≤n) {z:Int} (h0 : -9223372036854775808≤z) (h1:z≤9223372036854775807):T n 159 [.one (iC z),.one (iC 10)] []=some (.one (sC (pC z)),[]):=by
 obtain ⟨m,rfl⟩:=tG hn;refine Vj rfl ?_;show (if (10:Int)=10∧-9223372036854775808≤z∧z≤9223372036854775807 then some (V.one (.d (.str (pC z))),([]:List (List C))) else none)=_;rw [aJ ⟨rfl,h0,h1⟩]
theorem afb (n:Nat) (hn:2≤n) (b:Bool):T n 160 [.one (bC b)] []=some (V.one (sC (if b then [116,114,117,101] else [102,97,108,115,101])),[]):=by
 obtain ⟨m,rfl⟩:=tG hn;refine ahu _ (tf (b:=if b then [116,114,117,101] else [102,97,108,115,101]) (ahv _ ?_) rfl);cases b<;>rfl
theorem iA {k c:Int} {R:Type} {x y:R} (h:k≠c):(bif k==c then x else y)=y:=by rw [dW (by simpa using h)]
theorem anu (n:Nat) (hn:40≤n) {k:Int} {nm:BB} {z:Int} {tx:BB} (h:Ly k nm z tx) (x y:Int):T n 102 [.agg [iC k,sC nm,iC z,sC tx,iC x,iC y]] []=some (.one (sC (gn (.lf k nm z tx))),[]):=by
 obtain ⟨m,rfl⟩:=bm 40 n;refine af' _ ?_;rcases h with ⟨rfl,h,rfl,rfl⟩ | ⟨rfl,rfl,rfl,h,h'⟩ | ⟨rfl,rfl,rfl,h⟩ | ⟨rfl,rfl,rfl,h⟩ | ⟨rfl,rfl,rfl,rfl⟩ | ⟨rfl,rfl,rfl,rfl⟩
 ·rfl
 ·rw [dW (by decide),ez (by decide),c159,aj9 (m+39) (by omega) h h',wo];rfl
 ·rw [dW (by decide),dW (by decide),ez (by decide),c160,afb (m+39) (by omega),wo];rcases h with rfl | rfl<;>rfl
 ·rw [dW (by decide),dW (by decide),dW (by decide),ez (by decide),Wb,aoK (m+39) (by omega) tx (by omega) (by omega),wo];rfl
 ·rfl
 ·rfl
theorem SE (n:Nat) (hn:1≤n) (k:Int):T n 103 [.one (iC k)] []=some (.one (sC (rB k)),[]):=by
 obtain ⟨m,rfl⟩:=tG hn;refine agd _ ?_;unfold rB;repeat' split
 all_goals (try subst_vars)
 all_goals (first | rfl | (simp only [iA, *,ne_eq,Nk,not_true_eq_false];done) | skip)
 all_goals (repeat (first | rw [iA (by assumption)] | rfl))
theorem abJ (n:Nat) (hn:1≤n) (k:Int):T n 104 [.one (iC k)] []=some (.one (sC (tN k)),[]):=by
 obtain ⟨m,rfl⟩:=tG hn;refine af9 _ ?_;unfold tN;repeat' split
 all_goals (try subst_vars)
 all_goals (first | rfl | skip)
 all_goals (repeat (first | rw [iA (by assumption)] | rfl))
end
section
open Go Go.ax PT
theorem Pm {R:Type} {n:Nat} {x:Option R} (h:n≤9223372036854775807):aN n x=x:=by unfold aN;rw [bf h];rfl
theorem TT.yP {l:RR}:∀{t:TT} {i:Int},t.at_ l i→∃j:Nat,i=j
 | .lf ..,_,⟨j,h,_⟩=>⟨j,h⟩
 | .un ..,_,⟨j,_,h,_⟩=>⟨j,h⟩
 | .bi ..,_,⟨j,_,_,h,_⟩=>⟨j,h⟩
theorem ac8 (k:Int):(rB k).length≤3:=by
 unfold rB;repeat' split
 all_goals decide
theorem IB (k:Int):(tN k).length≤4:=by
 unfold tN;repeat' split
 all_goals decide
theorem apq {k:Int} (h:xD k=true):(rB k==[])=false:=by
 unfold xD at h;simp only [bK,fy] at h;have:k=6∨k=7∨k=8∨k=9∨k=10∨k=11∨k=12∨k=13∨k=14:=by omega
 rcases this with rfl | rfl | rfl | rfl | rfl | rfl | rfl | rfl | rfl<;>rfl
section
variable (x0:Bool) (l:RR)
theorem Mg:∀(t:TT),vX t→∀(i:Int),t.at_ l i→∀n,60 * t.size≤n→∀b:BB,b.length+(gn t).length≤100000000000000→
  T n 50 [pE,.one (lC (.im x0) 6 l),.one (iC i)] [bx bl (bB b)]=some (.aq [],[bx bl (bB (b++gn t))])
 | .lf k nm z tx,h,i,⟨j,hi,hr⟩,n,hn,b,hb=>by
  have hn:60≤n:=hn;obtain ⟨m,rfl⟩:=bm 60 n;refine OP _ ?_;refine iI (v:=(k,nm,z,tx,-1,-1,())) hi hr (bT 6) rfl ?_;dsimp only;rw [ez (bf (show (-1:Int) < 0 by omega)),V2,anu (m+59) (by omega) h,wo];dsimp only;rw [du,rN (m+59) (by omega) _ _ hb,ry];rfl
 | .un k a,h,i,⟨j,x,hi,hr,ha⟩,n,hn,b,hb=>by
  have ih:=Mg a h.2 x ha;have hn:60 * (a.size+1)≤n:=hn;obtain ⟨jx,hx⟩:=(TT.yP ha)
  have mn:¬ x < 0:=by omega
  obtain ⟨m,rfl⟩:=bm 60 n;refine OP _ ?_;refine iI (v:=(k,[],0,[],x,-1,())) hi hr (bT 6) rfl ?_;dsimp only;rw [dW (cg mn)];rcases h.1 with rfl | rfl
  ·have e:gn (.un 15 a)=[40,110,111,116,32]++gn a++[41]:=rfl;rw [e] at hb ⊢;simp only [ew,gp,jD] at hb;rw [ez (by decide),du,rN (m+59) (by omega) _ _ (by simp;omega),ry];dsimp only;rw [ez rfl,kg,ih (m+59) (by omega) _ (by simp;omega),rz];dsimp only;rw [du,rN (m+59) (by omega) _ _ (by simp;omega),ry];dsimp only;rw [ez rfl];simp only [eo]
  ·have e:gn (.un 16 a)=[108,101,110,40]++gn a++[41]:=rfl;rw [e] at hb ⊢;simp only [ew,gp,jD] at hb;rw [dW (by decide),Bf,SE (m+59) (by omega),wo];dsimp only;rw [dW (by decide),N0,abJ (m+59) (by omega),wo];dsimp only;refine (Pm (by have:=IB 16;omega)).trans ?_;rw [show tN 16++[40]=[108,101,110,40] from rfl,du,rN (m+59) (by omega) _ _ (by simp;omega),ry];dsimp only;rw [ez rfl,kg,ih (m+59) (by omega) _ (by simp;omega),rz];dsimp only;rw [dW (cg (show ¬ (-1:Int)≥0 by omega)),du,rN (m+59) (by omega) _ _ (by simp;omega),ry];dsimp only;rw [ez rfl];simp only [eo]
 | .bi k a a',h,i,⟨j,x,y,hi,hr,ha,BV⟩,n,hn,b,hb=>by
  have ih:=Mg a h.2.1 x ha;have FO:=Mg a' h.2.2 y BV;have hn:60 * (a.size+a'.size+1)≤n:=hn;obtain ⟨jx,hx⟩:=(TT.yP ha)
  obtain ⟨jy,hy⟩:=(TT.yP BV)
  have mn:¬ x < 0:=by omega
  have hy0:y≥0:=by omega
  obtain ⟨m,rfl⟩:=bm 60 n;have ajt:k≠15:=by
   rintro rfl;rcases h.1 with h | h | h | h
   ·exact absurd h (by decide)
   ·cases h
   ·cases h
   ·cases h
  refine OP _ ?_;refine iI (v:=(k,[],0,[],x,y,())) hi hr (bT 6) rfl ?_;dsimp only;rw [dW (cg mn),iA ajt,Bf,SE (m+59) (by omega),wo];dsimp only;by_cases hk:xD k=true
  ·have e:gn (.bi k a a')=[40]++gn a++([32]++rB k++[32])++gn a'++[41]:=by simp only [gn,hk,bV]
   rw [e] at hb ⊢;have hs:=ac8 k;simp only [ew,gp,jD] at hb;rw [ez (by rw [apq hk];rfl),du,rN (m+59) (by omega) _ _ (by simp;omega),ry];dsimp only;rw [ez rfl,kg,ih (m+59) (by omega) _ (by simp;omega),rz];dsimp only;rw [Bf,SE (m+59) (by omega),wo];dsimp only;refine (ow (bf (show 1+(rB k).length≤9223372036854775807 by omega))).trans ?_;refine (Pm (show ([32]++rB k:BB).length+1≤9223372036854775807 by simp;omega)).trans ?_;rw [du,rN (m+59) (by omega) _ _ (by simp;omega),ry];dsimp only;rw [ez rfl,kg,FO (m+59) (by omega) _ (by simp;omega),rz];dsimp only;rw [du,rN (m+59) (by omega) _ _ (by simp;omega),ry];dsimp only;rw [ez rfl];simp only [eo]
  ·have e:gn (.bi k a a')=(tN k++[40])++gn a++[44,32]++gn a'++[41]:=by simp only [gn,hk,dE];rfl
   have iG:k=17∨k=18∨k=19:=by rcases h.1 with h | h;exact absurd h hk;exact h
   have hsg:rB k=[]:=by rcases iG with rfl | rfl | rfl<;>rfl
   rw [e] at hb ⊢;have hs:=IB k;simp only [ew,gp,jD] at hb;rw [hsg,dW (by decide),N0,abJ (m+59) (by omega),wo];dsimp only;refine (Pm (by omega)).trans ?_;rw [du,rN (m+59) (by omega) _ _ (by simp;omega),ry];dsimp only;rw [ez rfl,kg,ih (m+59) (by omega) _ (by simp;omega),rz];dsimp only;rw [ez (bf hy0),du,rN (m+59) (by omega) _ _ (by simp;omega),ry];dsimp only;rw [ez rfl,kg,FO (m+59) (by omega) _ (by simp;omega),rz];dsimp only;rw [du,rN (m+59) (by omega) _ _ (by simp;omega),ry];dsimp only;rw [ez rfl];simp only [eo]
theorem sgd (b:BB) (hb:b≠[]) (hl:b.length≤100000000000000):((D.db b).length==(D.db b).length && !((D.db b).length==0)&&decide ((D.db b).length≤140737488355328))=true:=by
 rw [mD,HQ,bf (by omega)];cases b with
 | nil=>exact absurd rfl hb
 | cons=>rfl
theorem TU (n:Nat) (hn:1≤n) (b:BB) (hb:b≠[]) (hl:b.length≤100000000000000):T n 37 [pE] [bx bl (bB b)]=some (.one (sC b),[bx yr ((),(),())]):=by
 obtain ⟨m,rfl⟩:=tG hn;refine Xp _ ?_;cases b with
 | nil=>exact absurd rfl hb
 | cons c r=>
  dsimp only [MJ,zZ];have h0:((D.db (c::r)).length==0)=false:=by rw [mD];rfl
  refine (ow (by rw [h0];rfl)).trans ?_;refine (ow (sgd (c::r) (by simp) hl)).trans ?_;exact (qO _ (DJ (c::r))).trans rfl
theorem acA (s:BB) {R:Type} (K:BB×au yr×Unit→Option R):aG Te (some (.one (sC s),[bx yr ((),(),())])) K=K (s,((),(),()),()):=rfl
theorem aqd:∀{t:TT},vX t→gn t≠[]
 | .lf k nm z tx,h=>by
  rcases h with ⟨rfl,h,rfl,rfl⟩ | ⟨rfl,rfl,rfl,h,h'⟩ | ⟨rfl,rfl,rfl,h⟩ | ⟨rfl,rfl,rfl,h⟩ | ⟨rfl,rfl,rfl,rfl⟩ | ⟨rfl,rfl,rfl,rfl⟩
  ·intro h1;have:nm=[]:=h1;subst this;cases h
  ·intro h1;have hp:=aol h h';rw [show pC z=[] from h1] at hp;cases hp
  ·rcases h with rfl | rfl<;>simp [gn]
  ·simp [gn,ye]
  ·simp [gn]
  ·simp [gn]
 | .un k a,h=>by simp only [gn];split<;>simp
 | .bi k a b,h=>by simp only [gn];split<;>simp
theorem apU {t:TT} (h:vX t) {i:Int} (ha:t.at_ l i) (hl:(gn t).length≤100000000000000) {n:Nat} (hn:60 * t.size+3≤n) (hM:∀k,n≤k+1→T k 25 [.one (lC (.im x0) 6 l),.one (iC i)] []=some (.one (bC true),[])) :
  T n 15 [.one (lC (.im x0) 6 l),.one (iC i)] []=some (.one (sC (gn t)),[]):=by
 have hp:=Mg x0 l t h i ha;obtain ⟨m,rfl⟩:=bm 1 n;refine Xn _ ?_;rw [Ep,hM m (bT _),Aw];dsimp only;rw [dW (show (!true)=false from rfl)];have:=hp m (by omega) [] (by simpa using hl);rw [uP] at this;have e:(bx bl ((),((Tag.im true),[]),()))=bx bl (bB []):=rfl;rw [kg,e,this,rz];dsimp only;rw [c37,TU m (by omega) _ (aqd h) hl,acA]
end
end
section
open Go Go.ax PT
structure TR where
 k:Int
 nm:BB
 n:Int
 tx:BB
 x:Int
 y:Int
def cR (t:TR):List D:=row t.k t.nm t.n t.tx t.x t.y
def jl (k:Int):Int:=if k=0∨k=1∨k=2∨k=3∨k=4∨k=5 then 0 else if k=15∨k=16 then 1
 else if k=6∨k=7∨k=8∨k=9∨k=10∨k=11∨k=12∨k=13∨k=14∨k=17∨k=18∨k=19 then 2 else -1
def tR (t:TR):Bool:=
 bif t.k==0 then (bif gK t.nm then (bif t.n==0 then t.tx==[] else false) else false)
 else bif t.k==1 then (bif t.nm==[] then t.tx==[] else false)
 else bif t.k==2 then (bif t.nm==[] then (bif t.tx==[] then (bif t.n==0 then true else t.n==1) else false) else false)
 else bif t.k==3 then (bif t.nm==[] then (bif t.n==0 then decide (t.tx.length≤24) else false) else false)
 else (bif t.nm==[] then (bif t.n==0 then t.tx==[] else false) else false)
abbrev WF:=Nat→Int→List Bool→Bool×List Bool
def di (rc:WF) (ops i to:Int) (a:Nat) (d:Int) (m:List Bool):Bool×List Bool:=
 bif decide (i≥ops) then (decide (to = -1),m) else bif decide (to < 0) then (false,m) else bif decide (to≥(a:Int)) then (false,m) else rc to.toNat (d+1) m
def AO (rc:WF) (l:List TR) (a:Nat) (d:Int) (m:List Bool):Bool×List Bool:=
 match l[a]? with
 | none=>(false,m)
 | some t=>
  bif m.getD a false then (false,m) else bif decide (d > 24) then (false,m) else bif decide (jl t.k < 0) then (false,m) else bif !(tR t) then (false,m)
  else bif (di rc (jl t.k) 0 t.x a d (m.set a true)).1 then di rc (jl t.k) 1 t.y a d (di rc (jl t.k) 0 t.x a d (m.set a true)).2 else (false,(di rc (jl t.k) 0 t.x a d (m.set a true)).2)
def wk (l:List TR):Nat→WF
 | 0=>fun _ _ m=>(false,m)
 | f+1=>AO (wk l f) l
theorem aog (n:Nat) (hn:2≤n) (k:Int):T n 68 [.one (iC k)] []=some (.one (iC (jl k)),[]):=by
 obtain ⟨m,rfl⟩:=tG hn;refine ahA _ ?_;by_cases h0:k=0∨k=1∨k=2∨k=3∨k=4∨k=5
 ·rcases h0 with rfl | rfl | rfl | rfl | rfl | rfl<;>rfl
 by_cases h1:k=15∨k=16
 ·rcases h1 with rfl | rfl<;>rfl
 by_cases h2:k=6∨k=7∨k=8∨k=9∨k=10∨k=11∨k=12∨k=13∨k=14∨k=17∨k=18∨k=19
 ·rcases h2 with rfl | rfl | rfl | rfl | rfl | rfl | rfl | rfl | rfl | rfl | rfl | rfl<;>rfl
 rw [show jl k = -1 by unfold jl;rw [az h0,az h1,az h2]];simp only [not_or] at h0 h1 h2;rw [iA h0.1,iA h0.2.1,iA h0.2.2.1,iA h0.2.2.2.1,iA h0.2.2.2.2.1,iA h0.2.2.2.2.2,iA h1.1,iA h1.2,iA h2.1,iA h2.2.1,iA h2.2.2.1,iA h2.2.2.2.1,iA h2.2.2.2.2.1,iA h2.2.2.2.2.2.1,iA h2.2.2.2.2.2.2.1,iA h2.2.2.2.2.2.2.2.1,iA h2.2.2.2.2.2.2.2.2.1,iA h2.2.2.2.2.2.2.2.2.2.1,iA h2.2.2.2.2.2.2.2.2.2.2.1,iA h2.2.2.2.2.2.2.2.2.2.2.2];rfl
theorem pe {b:Bool} {p q:OR} {x y:Bool} (h:p=some (.one (bC x),[])) (h':q=some (.one (bC y),[])):(bif b then p else q)=some (.one (bC (bif b then x else y)),[]):=by
 subst h h';cases b<;>rfl
theorem aiB (n:Nat) (hn:30≤n) (t:TR):T n 69 [.agg [iC t.k,sC t.nm,iC t.n,sC t.tx,iC t.x,iC t.y]] []=some (.one (bC (tR t)),[]):=by
 obtain ⟨m,rfl⟩:=bm 30 n;refine ahz _ ?_;unfold tR;rw [fB,vP (m+29) (by omega),Aw];dsimp only;refine pe (pe (pe rfl rfl) rfl) (pe (pe rfl rfl) (pe (pe (pe (pe rfl rfl) rfl) rfl) (pe (pe (pe ?_ rfl) rfl) (pe (pe rfl rfl) rfl))));exact fW (fun b=>(some (V.one (bC b),[]):OR)) (U5.2 (show ae t.tx.length≤24↔t.tx.length≤24 by rw [pF];omega))
theorem apQ {R:Type} (z:Bool) (K:au [.bool]→Option R):cF [.bool] (List.take 1 (List.drop 0 [.bool z])) K=K (z,()):=rfl
section
variable (x0:Bool) (l:List TR)
abbrev wV (x0:Bool) (l:List TR):au [.tg 6]:=((.im x0,l.map cR),())
abbrev tM (m:List Bool):au [.tg 1]:=((.own,m.map fun b=>[D.bool b]),())
abbrev wU:au kz:=((),())
theorem aoU (b:Bool) (m:List Bool) {R:Type} (K:Bool×au [.tg 6]×au [.tg 1]×au kz×Unit→Option R) :
 aG Hb (some (.one (bC b),[bx [.tg 6] (wV x0 l),bx [.tg 1] (tM m),bx kz wU])) K=K (b,wV x0 l,tM m,wU,()):=rfl
abbrev NF (r:Bool×List Bool):OR:=some (.one (bC r.1),[bx [.tg 6] (wV x0 l),bx [.tg 1] (tM r.2),bx kz wU])
def HZ (n:Nat) (rc:WF) (d:Int):Prop:=∀(c:Nat) (m:List Bool),c < l.length→m.length=l.length→
 T n 67 [.one (iC (c:Int)),.one (iC d),pE,.one (.ptr (.e 1) 0 0),.one (.ptr (.e 2) 0 0)] [bx [.tg 6] (wV x0 l),bx [.tg 1] (tM m),bx kz wU]=NF x0 l (rc c d m)
variable {x0 l}
theorem it (n q k:Nat) (rc:WF) (a:Nat) (d:Int) (hd : -1000 < d∧d < 1000) (hw:HZ x0 l n rc (d+1)) (ha:a < l.length) {x2 x3 x4} (m:List Bool) (hm:m.length=l.length) (ops:Int) (L R:Int) (i:Nat) (to:Int)
  (hi:(i=0∧to=L)∨(i=1∧to=R)) :
  C0 (T n) q x2 x3 x4 (k+1) (a:Int) d (wV x0 l) (tM m) wU ops [[.int .i64 L],[.int .i64 R]] 2 (i:Int) =
   bif (di rc ops i to a d m).1 then C0 (T n) q x2 x3 x4 k (a:Int) d (wV x0 l) (tM (di rc ops i to a d m).2) wU ops [[.int .i64 L],[.int .i64 R]] 2 ((i+1:Nat):Int)
   else NF x0 l (false,(di rc ops i to a d m).2):=by
 rw [aas];have YU:i < 2:=by omega
 rw [ez (bf (by omega))];have hr:([[.int .i64 L],[.int .i64 R]]:RR)[i]? = some [.int .i64 to]:=by
  rcases hi with ⟨rfl,rfl⟩ | ⟨rfl,rfl⟩<;>rfl
 refine sK (v:=(to,())) rfl hr (bT 1) rfl ?_;dsimp only;have w1:ak ((i:Int)+1)=((i+1:Nat):Int):=MW i (by omega);rw [w1];unfold di;by_cases h1:(i:Int)≥ops
 ·rw [ez (bf h1),ez (bf h1)];by_cases h2:to = -1
  ·subst h2;rw [dW (by decide)];rfl
  ·rw [ez (by simpa using h2),cg h2];rfl
 ·rw [dW (cg h1),dW (cg h1)];by_cases h2:to < 0
  ·rw [ez (bf h2),ez (bf h2)];rfl
  ·rw [dW (cg h2),dW (cg h2)];by_cases h3:to≥(a:Int)
   ·rw [ez (bf h3),ez (bf h3)];rfl
   ·rw [dW (cg h3),dW (cg h3)];have e1:ak (d+1)=d+1:=by show IntKind.wrap .i64 _=_;rw [wrap_i64 (by omega) (by omega)]
    have e2:to=((to.toNat:Nat):Int):=by omega
    have:=hw to.toNat m (by omega) hm;rw [←e2] at this;rw [e1];refine (fW (fun o=>aG Hb o _) this).trans ?_;rw [aoU];dsimp only;cases (rc to.toNat (d+1) m).1<;>rfl
theorem TP {rc:WF} (hl:∀c d m,m.length=l.length→(rc c d m).2.length=l.length) (ops i to:Int) (a:Nat) (d:Int) (m:List Bool) (hm:m.length=l.length):(di rc ops i to a d m).2.length=l.length:=by
 unfold di;cases decide (i≥ops)
 ·cases decide (to < 0)
  ·cases decide (to≥(a:Int))
   ·exact hl _ _ _ hm
   ·exact hm
  ·exact hm
 ·exact hm
theorem aez:∀(f:Nat) (c:Nat) (d:Int) (m:List Bool),m.length=l.length→(wk l f c d m).2.length=l.length
 | 0,c,d,m,hm=>hm
 | f+1,c,d,m,hm=>by
  have ih:=aez f;show (AO (wk l f) l c d m).2.length=_;unfold AO;cases l[c]? with
  | none=>exact hm
  | some t=>
   dsimp only;cases m.getD c false with
   | true=>exact hm
   | false=>
    cases decide (d > 24) with
    | true=>exact hm
    | false=>
     cases decide (jl t.k < 0) with
     | true=>exact hm
     | false=>
      cases !(tR t) with
      | true=>exact hm
      | false=>
       have h1:=TP ih (jl t.k) 0 t.x c d (m.set c true) (by simpa using hm);dsimp only [cond_false];cases (di (wk l f) (jl t.k) 0 t.x c d (m.set c true)).1 with
       | true=>exact TP ih _ _ _ _ _ _ h1
       | false=>exact h1
theorem aev:∀(f:Nat) (d:Int),1≤d→d≤25→26≤(f:Int)+d→∀n,60+f≤n→HZ x0 l n (wk l f) d
 | 0,d,h1,h2,h3,n,hn=>by omega
 | f+1,d,h1,h2,h3,n,hn=>by
  intro a m ha hm;obtain ⟨n,rfl⟩:∃n',n=n'+60:=⟨n - 60,by omega⟩
  refine ahx _ ?_;have QM:l[a]? = some l[a]:=gE ha;generalize l[a]=t at QM;have Qq:m[a]? = some (m.getD a false):=by
   rw [kC,gE (by omega)];rfl
  refine uH (iI (v:=(t.k,t.nm,t.n,t.tx,t.x,t.y,())) rfl (show (l.map cR)[a]? = some (cR t) by rw [bO,QM];rfl) (bT 6) rfl ?_);dsimp only;refine ap4 (aog (n+59) (by omega) t.k) (mE (sK (v:=(m.getD a false,())) rfl (show (m.map fun b=>[D.bool b])[a]? = some [D.bool (m.getD a false)] by rw [bO,Qq];rfl) (bT 1) rfl ?_));dsimp only;show _=NF x0 l (AO (wk l f) l a d m);unfold AO;rw [QM];dsimp only;cases m.getD a false with
  | true=>rfl
  | false=>
   rw [cond_false,cond_false];by_cases g1:d > 24
   ·rw [ez (bf g1),ez (bf g1)]
   ·rw [dW (cg g1),dW (cg g1)];by_cases g2:jl t.k < 0
    ·rw [ez (bf g2),ez (bf g2)]
    ·rw [dW (cg g2),dW (cg g2),Wz,aiB (n+59) (by omega),Aw];dsimp only;cases tR t with
     | false=>rfl
     | true=>
      rw [dW (show (!true)=false from rfl),dW (show (!true)=false from rfl),anc];dsimp only [zZ];rw [Mh _ rfl];refine (ow (bf (by rw [cf];omega))).trans ?_;refine (qO (b:=[D.bool (m.getD a false)]) _ (by rw [dc,bO,Qq];rfl)).trans ?_;refine (ow rfl).trans ?_;rw [apQ];have JG:bX (m.map fun b=>[D.bool b]) (0+a) 0 (D.bool true)=(m.set a true).map fun b=>[D.bool b]:=by
       unfold bX;rw [dc,AY];congr 1;rw [kC,bO,Qq];rfl
      rw [JG];have hw:HZ x0 l (n+59) (wk l f) (d+1):=aev f (d+1) (by omega) (by omega) (by omega) (n+59) (by omega);have oH:(m.set a true).length=l.length:=by simpa using hm
      have e0:=it (n+59) (n+59) (n+58) (wk l f) a d (by omega) hw ha (x2:=wV x0 l) (x3:=tM m) (x4:=wU) (m.set a true) oH (jl t.k) t.x t.y 0 t.x (.inl ⟨rfl,rfl⟩);refine e0.trans ?_;have kx:=TP (aez f) (jl t.k) 0 t.x a d (m.set a true) oH;rw [show ((0:Nat):Int)=0 from rfl] at *;generalize di (wk l f) (jl t.k) 0 t.x a d (m.set a true)=r at kx ⊢;cases r.1 with
      | false=>rfl
      | true=>
       rw [HR,HR];have e1:=it (n+59) (n+59) (n+57) (wk l f) a d (by omega) hw ha (x2:=wV x0 l) (x3:=tM m) (x4:=wU) r.2 kx (jl t.k) t.x t.y 1 t.y (.inr ⟨rfl,rfl⟩);refine e1.trans ?_;rw [show ((1:Nat):Int)=1 from rfl];generalize sH:di (wk l f) (jl t.k) 1 t.y a d r.2=r2;cases h:r2.1 with
       | false=>rw [cond_false];cases r2;subst h;rfl
       | true=>
        rw [HR,aas];rw [dW (by decide)];cases r2;subst h;rfl
def sU (l:List TR) (root:Int):Bool:=decide (l.length≤160)&&(decide (0≤root)&&(decide (root < l.length)&&(wk l 25 root.toNat 1 (List.replicate l.length false)).1))
theorem aa3 (root:Int) (n:Nat) (hn:100≤n):T n 25 [.one (lC (.im x0) 6 (l.map cR)),.one (iC root)] []=some (.one (bC (sU l root)),[]):=by
 obtain ⟨n,rfl⟩:∃n',n=n'+100:=⟨n - 100,by omega⟩
 refine ahw _ ?_;unfold sU;rw [cf,pF];by_cases h1:l.length≤160
 ·rw [dW (cg (by omega)),bf h1];by_cases h2:0≤root
  ·rw [dW (cg (by omega)),bf h2];by_cases h3:root < l.length
   ·rw [dW (cg (by omega)),bf h3,anb];dsimp only [zZ];refine (ow ?_).trans ?_
    ·rw [cf,bf (bT _),bf (by omega),bf (by omega)];cases (l.length==0)<;>rfl
    ·have hw:HZ x0 l (n+99) (wk l 25) 1:=aev 25 1 (by omega) (by omega) (by omega) (n+99) (by omega);have h:=hw root.toNat (List.replicate l.length false) (by omega) (by simp);rw [show ((root.toNat:Nat):Int)=root by omega] at h;have e:tM (List.replicate l.length false)=((.own,List.replicate (l.map cR).length [D.bool false]),()):=by
      unfold tM;rw [List.map_replicate,cf]
     rw [e] at h;refine (fW (fun o=>aG Hb o _) h).trans ?_;rfl
   ·rw [ez (bf (by omega)),cg h3];rfl
  ·rw [ez (bf (by omega)),cg h2];rfl
 ·rw [ez (bf (by omega)),cg h1];rfl
end
end
section
open Go Go.ax PT
def Cr (t:TR):Prop:=-9223372036854775808≤t.n∧t.n≤9223372036854775807
theorem aoi (k:Int):(jl k=0∧(k=0∨k=1∨k=2∨k=3∨k=4∨k=5))∨(jl k=1∧(k=15∨k=16))∨(jl k=2∧(xD k=true∨k=17∨k=18∨k=19))∨jl k = -1:=by
 unfold jl;by_cases h0:k=0∨k=1∨k=2∨k=3∨k=4∨k=5
 ·rw [aJ h0];exact .inl ⟨rfl,h0⟩
 ·rw [az h0];by_cases h1:k=15∨k=16
  ·rw [aJ h1];exact .inr (.inl ⟨rfl,h1⟩)
  ·rw [az h1];by_cases h2:k=6∨k=7∨k=8∨k=9∨k=10∨k=11∨k=12∨k=13∨k=14∨k=17∨k=18∨k=19
   ·rw [aJ h2];refine .inr (.inr (.inl ⟨rfl,?_⟩));unfold xD;simp only [bK,fy];omega
   ·rw [az h2];exact .inr (.inr (.inr rfl))
theorem anD {t:TR} (h0:t.k=0∨t.k=1∨t.k=2∨t.k=3∨t.k=4∨t.k=5) (hf:tR t=true) (hr:Cr t):Ly t.k t.nm t.n t.tx:=by
 obtain ⟨k,nm,n,tx,x,y⟩:=t;unfold Cr at hr;simp only at h0 hr ⊢;unfold Ly;rcases h0 with rfl | rfl | rfl | rfl | rfl | rfl<;>simp [tR,Bool.cond_eq_ite] at hf
 ·exact .inl ⟨rfl,hf⟩
 ·exact .inr (.inl ⟨rfl,hf.1,hf.2,hr⟩)
 ·exact .inr (.inr (.inl ⟨rfl,hf⟩))
 ·exact .inr (.inr (.inr (.inl ⟨rfl,hf⟩)))
 ·exact .inr (.inr (.inr (.inr (.inl ⟨rfl,hf⟩))))
 ·exact .inr (.inr (.inr (.inr (.inr ⟨rfl,hf⟩))))
theorem Yd {t:TR} (h0:¬ (t.k=0∨t.k=1∨t.k=2∨t.k=3)) (hf:tR t=true):t.nm=[]∧t.n=0∧t.tx=[]:=by
 obtain ⟨k,nm,n,tx,x,y⟩:=t;simp only [not_or] at h0;unfold tR at hf;simp only at hf h0 ⊢;rw [iA h0.1,iA h0.2.1,iA h0.2.2.1,iA h0.2.2.2] at hf;simp [Bool.cond_eq_ite] at hf;exact hf
def dQ (m:List Bool):Nat:=m.count true
theorem afD (m:List Bool):dQ m≤m.length:=DV
theorem W5:∀(m:List Bool) (a:Nat),a < m.length→m.getD a false=false→dQ (m.set a true)=dQ m+1
 | [],a,h,_=>by simp at h
 | b::m,0,h,h'=>by
  have:b=false:=by simpa using h'
  subst this;simp [dQ]
 | b::m,a+1,h,h'=>by
  have:=W5 m a (by simpa using h) (by simpa using h');simp only [dQ,List.set_cons_succ,UI] at this ⊢;omega
theorem adE {rc:WF} {ops i to:Int} {a:Nat} {d:Int} {m:List Bool} (h:(di rc ops i to a d m).1=true) :
  (i≥ops∧to = -1∧(di rc ops i to a d m).2=m)∨(i < ops∧∃c:Nat,to=c∧c < a∧rc c (d+1) m=(true,(di rc ops i to a d m).2)):=by
 unfold di at h ⊢;by_cases h1:i≥ops
 ·rw [ez (bf h1)] at h ⊢;exact .inl ⟨h1,by simpa using h,rfl⟩
 ·rw [dW (cg h1)] at h ⊢;by_cases h2:to < 0
  ·rw [ez (bf h2)] at h;cases h
  ·rw [dW (cg h2)] at h ⊢;by_cases h3:to≥(a:Int)
   ·rw [ez (bf h3)] at h;cases h
   ·rw [dW (cg h3)] at h ⊢;refine .inr ⟨by omega,to.toNat,by omega,by omega,?_⟩;generalize rc to.toNat (d+1) m=r at h ⊢;cases r;subst h;rfl
theorem aeA {l:List TR} (hr:∀t∈l,Cr t):∀(f a:Nat) (d:Int) (m m':List Bool),m.length=l.length→wk l f a d m=(true,m')→
  ∃t,vX t∧t.at_ (l.map cR) a∧(t.deep:Int)+d≤25∧m'.length=l.length∧dQ m'=dQ m+t.size
 | 0,a,d,m,m',hm,h=>by cases h
 | f+1,a,d,m,m',hm,h=>by
  have ih:=aeA hr f;have h:AO (wk l f) l a d m=(true,m'):=h;unfold AO at h;cases ht:l[a]? with
  | none=>rw [ht] at h;cases h
  | some t=>
   rw [ht] at h;dsimp only at h;have Cb:t∈l:=fm ht;have hla:a < l.length:=(cB.1 ht).1;have df:(l.map cR)[a]? = some (cR t):=by rw [bO,ht];rfl
   cases hg:m.getD a false with
   | true=>rw [hg] at h;cases h
   | false=>
    rw [hg,cond_false] at h;by_cases g1:d > 24
    ·rw [ez (bf g1)] at h;cases h
    rw [dW (cg g1)] at h;by_cases g2:jl t.k < 0
    ·rw [ez (bf g2)] at h;cases h
    rw [dW (cg g2)] at h;cases g3:tR t with
    | false=>rw [g3] at h;cases h
    | true=>
     rw [g3,dW (show (!true)=false from rfl)] at h;have hs:=W5 m a (by omega) hg;have kU:(m.set a true).length=l.length:=by simpa using hm
     generalize m.set a true=m1 at h hs kU;cases g4:(di (wk l f) (jl t.k) 0 t.x a d m1).1 with
     | false=>rw [g4] at h;cases h
     | true=>
      rw [g4,HR] at h;have i0:=adE g4;generalize (di (wk l f) (jl t.k) 0 t.x a d m1).2=m2 at h i0;have i1:=adE (show (di (wk l f) (jl t.k) 1 t.y a d m2).1=true by rw [h]);rw [h] at i1;rcases aoi t.k with ⟨hk,iG⟩ | ⟨hk,iG⟩ | ⟨hk,iG⟩ | hk
      ·rw [hk] at i0 i1;rcases i0 with ⟨_,hx,rfl⟩ | ⟨h9,_⟩
       ·rcases i1 with ⟨_,hy,h8⟩ | ⟨h9,_⟩
        ·simp only at h8;subst h8;refine ⟨.lf t.k t.nm t.n t.tx,anD iG g3 (hr t Cb),⟨a,rfl,?_⟩,?_,kU,hs⟩
         ·rw [df];unfold cR;rw [hx,hy]
         ·show ((1:Nat):Int)+d≤25;omega
        ·omega
       ·omega
      ·rw [hk] at i0 i1;obtain ⟨e1,e2,e3⟩:=Yd (by omega) g3;rcases i0 with ⟨h9,_⟩ | ⟨_,c,hx,hc,qY⟩
       ·omega
       ·rcases i1 with ⟨_,hy,h8⟩ | ⟨h9,_⟩
        ·simp only at h8;subst h8;obtain ⟨t1,lU,Ba,dp1,jI,c1⟩:=ih c (d+1) m1 m' kU qY;refine ⟨.un t.k t1,⟨iG,lU⟩,⟨a,t.x,rfl,?_,?_⟩,?_,jI,?_⟩
         ·rw [df];unfold cR;rw [hy,e1,e2,e3]
         ·rw [hx];exact Ba
         ·show ((t1.deep+1:Nat):Int)+d≤25;omega
         ·show dQ m'=dQ m+(t1.size+1);omega
        ·omega
      ·rw [hk] at i0 i1;have hk3:¬ (t.k=0∨t.k=1∨t.k=2∨t.k=3):=by
        rcases iG with h | h | h | h
        ·unfold xD at h;simp only [bK,fy] at h;omega
        ·omega
        ·omega
        ·omega
       obtain ⟨e1,e2,e3⟩:=Yd hk3 g3;rcases i0 with ⟨h9,_⟩ | ⟨_,c,hx,hc,qY⟩
       ·omega
       ·rcases i1 with ⟨h9,_⟩ | ⟨_,c',hy,lL,ajP⟩
        ·omega
        ·obtain ⟨t1,lU,Ba,dp1,jI,c1⟩:=ih c (d+1) m1 m2 kU qY;obtain ⟨t2,xT,at2,dp2,dX,c2⟩:=ih c' (d+1) m2 m' jI ajP;refine ⟨.bi t.k t1 t2,⟨iG,lU,xT⟩,⟨a,t.x,t.y,rfl,?_,?_,?_⟩,?_,dX,?_⟩
         ·rw [df];unfold cR;rw [e1,e2,e3]
         ·rw [hx];exact Ba
         ·rw [hy];exact at2
         ·show ((max t1.deep t2.deep+1:Nat):Int)+d≤25;omega
         ·show dQ m'=dQ m+(t1.size+t2.size+1);omega
      ·omega
theorem anO {l:List TR} (hr:∀t∈l,Cr t) {root:Int} (h:sU l root=true):∃t,vX t∧t.at_ (l.map cR) root∧t.deep≤24∧t.size≤l.length:=by
 unfold sU at h;simp only [bK,fy] at h;obtain ⟨h1,h2,h3,h4⟩:=h;have h5:wk l 25 root.toNat 1 (List.replicate l.length false)=(true,(wk l 25 root.toNat 1 (List.replicate l.length false)).2):=by
  generalize wk l 25 root.toNat 1 (List.replicate l.length false)=r at h4 ⊢;cases r;subst h4;rfl
 obtain ⟨t,ok,Ba,dp,hl,c⟩:=aeA hr 25 root.toNat 1 _ _ (by simp) h5;have c0:dQ (List.replicate l.length false)=0:=by simp [dQ,UJ]
 have:=afD (wk l 25 root.toNat 1 (List.replicate l.length false)).2;rw [show ((root.toNat:Nat):Int)=root by omega] at Ba;exact ⟨t,ok,Ba,by omega,by omega⟩
end
section
open Go Go.ax PT
def Wp (o:OR) (Q:V→List (List C)→Prop):Prop:=∃v bs,o=some (v,bs)∧Q v bs
abbrev J (rs:RS) (K:rs.T→OR) (Q:V→List (List C)→Prop):V→List (List C)→Prop:=fun v bs=>Wp (aG rs (some (v,bs)) K) Q
section
variable {o x y:OR} {Q Q':V→List (List C)→Prop}
theorem aA {v:V} {bs:List (List C)} (h:Q v bs):Wp (some (v,bs)) Q:=⟨v,bs,rfl,h⟩
theorem aD (h:o=x) (h2:Wp x Q):Wp o Q:=h▸h2
theorem Wp.mono (h:Wp o Q) (h2:∀v bs,Q v bs→Q' v bs):Wp o Q':=by
 obtain ⟨v,bs,e,q⟩:=h;exact ⟨v,bs,e,h2 v bs q⟩
theorem ai {b:Bool} (h:b=true→Wp x Q) (h':b=false→Wp y Q):Wp (bif b then x else y) Q:=by
 cases b
 ·exact h' rfl
 ·exact h rfl
theorem gM {b:Bool} (hb:b=true) (h:Wp x Q):Wp (bif b then x else y) Q:=by subst hb;exact h
theorem eH {b:Bool} (hb:b=false) (h:Wp y Q):Wp (bif b then x else y) Q:=by subst hb;exact h
theorem aE {b:Bool} (hb:b=true) (h:Wp x Q):Wp (gd b x) Q:=by subst hb;exact h
theorem cz {n:Nat} (hn:n≤9223372036854775807) (h:Wp x Q):Wp (aN n x) Q:=by
 unfold aN;rw [show decide (n≤9223372036854775807)=true from bf hn];exact h
theorem fU {β:Type} {a:Option β} {b:β} {K:β→OR} (ha:a=some b) (h:Wp (K b) Q):Wp (aH a K) Q:=by subst ha;exact h
theorem jd {z:Int} {n:Nat} {K:Nat→OR} (hz:z=(n:Int)) (h:Wp (K n) Q):Wp (aH (cp z) K) Q:=fU (Ig hz) h
theorem je {f:Tag→OR} (h:Wp (f .own) Q):Wp (zZ .own f) Q:=h
theorem eY {b:Bool} {f:Tag→OR} (h:Wp (f (.im b)) Q):Wp (zZ (.im b) f) Q:=h
theorem iO {ds:List DS} {l:List D} {v:au ds} {K:au ds→OR} (hd:dS ds l=some v) (h:Wp (K v) Q):Wp (cF ds l K) Q:=by
 simp only [cF,hd];exact h
theorem aM {X:Type} {ds:List DS} {c n:Nat} {L:List X} {enc:X→List D} {f:X→au ds} (hd:∀a,c+n≤(enc a).length∧dS ds (List.take n (List.drop c (enc a)))=some (f a)) {z:Int} {i:Nat} {K:au ds→OR} (hz:z=(i:Int)) {a:X} (ha:L[i]? = some a) (h:Wp (K (f a)) Q):Wp (iR ds c n (L.map enc) z K) Q:=
 aD (iI hz (r:=enc a) (by rw [bO,ha];rfl) (hd a).1 (hd a).2 rfl) h
theorem nZ {X:Type} {ds:List DS} {c n:Nat} {L:List X} {enc:X→List D} {f:X→au ds} (hd:∀a,c+n≤(enc a).length∧dS ds (List.take n (List.drop c (enc a)))=some (f a)) {z:Int} {i:Nat} {K:au ds→OR} (hz:z=(i:Int)) {a:X} (ha:L[i]? = some a) (h:Wp (K (f a)) Q):Wp (iV ds c n (L.map enc) z K) Q:=
 aD (sK hz (r:=enc a) (by rw [bO,ha];rfl) (hd a).1 (hd a).2 rfl) h
end
end
end Go.Proofs.YtfmpdgeiodnnfaaGreatDoor
namespace Go.Proofs.YtfmpdgeiodnnfaaGreatDoor.QQ
section
open Go Go.ax
def bF (x:Int):List D:=[.int .i64 x]
theorem oQ:∀a:Int,0+1≤(bF a).length∧dS bY (List.take 1 (List.drop 0 (bF a)))=some ((fun b=>(b,())) a):=(fun a=>⟨by simp [bF],rfl⟩)
def cT (d:au ao):Prop:=∃(t:Tag) (l:List Int) (a:Nat),d=((t,l.map bF),(a:Int),())∧a≤l.length∧l.length≤100000000000000000
theorem ad4 {z:Int} {n:Nat} (h:z=n) (hn:n≤1000000000000000000):ak z=(n:Int):=by subst h;exact DQ (by omega) (by omega)
theorem aoq (x:Int) {k:Nat} (hk:1≤k) (ku:k≤1000000):iP (k:Int)=k∧∃j:Nat,ak ((iP x).tmod (iP (k:Int)))=j∧j < k:=by
 have hw:iP (k:Int)=k:=by
  show IntKind.wrap .u64 _=_;simp only [IntKind.wrap,IntKind.signed,IntKind.bits];simp;omega
 refine ⟨hw,?_⟩;rw [hw];have h0:0≤iP x:=by
  show 0≤IntKind.wrap .u64 _;simp only [IntKind.wrap,IntKind.signed,IntKind.bits];simp;omega
 have h1:(iP x).tmod (k:Int)=(iP x) % (k:Int):=UF h0;rw [h1];have h2:=Int.emod_nonneg (iP x) (show (k:Int)≠0 by omega);have h3:=Int.emod_lt_of_pos (iP x) (show (0:Int) < k by omega);exact ⟨((iP x) % (k:Int)).toNat,by rw [DQ (by omega) (by omega)];omega,by omega⟩
theorem pick (n:Nat) (hn:3≤n) {k:Nat} (hk:1≤k) (ku:k≤1000000) {d:au ao} (hd:cT d) :
  ∃(j:Nat) (d':au ao),j < k∧cT d'∧T n 73 [pE,.one (iC k)] [bx ao d]=some (.one (iC j),[bx ao d']):=by
 obtain ⟨m,rfl⟩:=bm 3 n;obtain ⟨t,l,a,rfl,ha,hl⟩:=hd;have nI:decide ((k:Int) < 1)=false:=cg (by omega);by_cases af:a < l.length
 ·have eP:decide ((a:Int)≥ae (l.map bF).length)=false:=cg (by rw [bJ];simp;omega);obtain ⟨hw,j,hj,YZ⟩:=aoq (l[a]) hk ku;have Y':(!decide (iP (k:Int)=0))=true:=by rw [hw];simp;omega
  have hg:(l.map bF)[a]? = some [.int .i64 l[a]]:=by rw [bO,gE af];rfl
  have hs:ak ((a:Int)+1)=((a+1:Nat):Int):=ad4 (by omega) (by omega);have hx:ak (ak ((a:Int)+1) - 1)=(a:Int):=by rw [hs];exact ad4 (by omega) (by omega)
  cases t with
  | im b=>
   refine ⟨j,((.im b,l.map bF),((a+1:Nat):Int),()),YZ,⟨_,l,a+1,rfl,by omega,hl⟩,OQ _ ?_⟩;refine bU nI (uH (bU eP ?_));rw [Z2];refine uH (iI (v:=(l[a],())) hx hg (by simp) rfl (ei Y' ?_));dsimp only;rw [hj,hs]
  | own=>
   refine ⟨j,((.own,l.map bF),((a+1:Nat):Int),()),YZ,⟨_,l,a+1,rfl,by omega,hl⟩,OQ _ ?_⟩;refine bU nI (mE (bU eP ?_));rw [Z2];refine mE (sK (v:=(l[a],())) hx hg (by simp) rfl (ei Y' ?_));dsimp only;rw [hj,hs]
 ·have eP:decide ((a:Int)≥ae (l.map bF).length)=true:=bf (by rw [bJ];simp;omega);refine ⟨0,((t,l.map bF),(a:Int),()),by omega,⟨t,l,a,rfl,ha,hl⟩,OQ _ ?_⟩;refine bU nI ?_;cases t with
  | im b=>exact uH (dD eP rfl)
  | own=>exact mE (dD eP rfl)
end
section
open Go Go.ax
def qn:List BB:=[[119],[120],[121],[122],[111,107]]
def iU:List (Int×BB):=[(0,[]),(1,[]),(2,[]),(3,[]),(4,[]),(5,[112,46,97]),(5,[112,46,98]),(5,[112,46,99]),(5,[112,46,100]),(5,[113,46,97]),(5,[113,46,98]),(5,[113,46,99]),(5,[113,46,100])]
structure AM where
 mq:BB
 kd:Int
 nm:BB
 nx:Nat
def cM (a:AM):List D:=[.str a.mq,.int .i64 a.kd,.str a.nm,.int .i64 (a.nx:Int)]
theorem G1:∀a:AM,1+2≤(cM a).length∧dS kb (List.take 2 (List.drop 1 (cM a)))=some ((fun a=>(a.kd,a.nm,())) a):=(fun a=>⟨by simp [cM],rfl⟩)
theorem Ds:∀a:AM,0+1≤(cM a).length∧dS [DS.str] (List.take 1 (List.drop 0 (cM a)))=some ((fun a=>(a.mq,())) a):=(fun a=>⟨by simp [cM],rfl⟩)
theorem yg:∀a:AM,3+1≤(cM a).length∧dS bY (List.take 1 (List.drop 3 (cM a)))=some ((fun a=>((a.nx:Int),())) a):=(fun a=>⟨by simp [cM],rfl⟩)
def Am (P:Nat) (a:AM):Prop:=a.mq∈qn∧(a.kd,a.nm)∈iU∧a.nx < P
def nc (P:Nat) (l:List AM):Prop:=1≤l.length∧l.length≤3∧(l.map AM.mq).Nodup∧∀a∈l,Am P a
def ia (s:List BB):RR:=s.map fun x=>[.str x]
def nP (s:List BB):Prop:=s.length≤5∧∀x∈s,((5:Int),x)∈iU
theorem acG (n:Nat) (hn:1≤n):T n 48 [] []=some (.one (lC (.im false) 1 [[.str [97]],[.str [98]],[.str [99]],[.str [100]],[.str [101]]]),[]):=by
 obtain ⟨m,rfl⟩:=bm 1 n;exact agF _ rfl
theorem Lw (n:Nat) (hn:1≤n):T n 49 [] []=some (.one (lC (.im false) 1 [[.str [119]],[.str [120]],[.str [121]],[.str [122]]]),[]):=by
 obtain ⟨m,rfl⟩:=bm 1 n;exact agy _ rfl
theorem IJ (n:Nat) (hn:4≤n) {d:au ao} (hd:cT d):∃(k:Int) (d':au ao),(k,[])∈iU∧cT d'∧T n 184 [pE] [bx ao d]=some (.agg [iC k,sC []],[bx ao d']):=by
 obtain ⟨m,rfl⟩:=bm 1 n;obtain ⟨j,d',hj,dz,e⟩:=pick m (by omega) (k:=6) (by omega) (by omega) hd;have hk:∃k:Int,([[.int .i64 1],[.int .i64 0],[.int .i64 1],[.int .i64 2],[.int .i64 3],[.int .i64 4]]:RR)[j]? = some [.int .i64 k]∧(k,([]:BB))∈iU:=by
  match j,hj with
  | 0,_=>exact ⟨1,rfl,by decide⟩
  | 1,_=>exact ⟨0,rfl,by decide⟩
  | 2,_=>exact ⟨1,rfl,by decide⟩
  | 3,_=>exact ⟨2,rfl,by decide⟩
  | 4,_=>exact ⟨3,rfl,by decide⟩
  | 5,_=>exact ⟨4,rfl,by decide⟩
 obtain ⟨k,hk,xp⟩:=hk;refine ⟨k,d',xp,dz,agh _ ?_⟩;refine lX e ?_;dsimp only;refine qo (Ie j) (ei (bf hj) (qo (b:=[.int .i64 k]) ?_ (ei rfl rfl)));rw [dc];exact hk
theorem Ol (n:Nat) (hn:6≤n) (b:Bool) {s:List BB} (hs:nP s) {d:au ao} (hd:cT d) :
  ∃(k:Int) (x:BB) (d':au ao),(k,x)∈iU∧cT d'∧T n 128 [pE,.one (lC (.im b) 1 (ia s))] [bx ao d]=some (.agg [iC k,sC x],[bx ao d']):=by
 obtain ⟨m,rfl⟩:=bm 2 n;have hl:ae (ia s).length=(s.length:Int):=by rw [bJ];simp [ia]
 by_cases h0:s.length=0
 ·obtain ⟨k,d2,hk,fh,e2⟩:=IJ (m+1) (by omega) hd;refine ⟨k,[],d2,hk,fh,OS _ ?_⟩;refine bU (cg (by rw [hl];omega)) ?_;rw [Z8];exact pO e2 rfl rfl
 ·have hp:decide (ae (ia s).length > 0)=true:=bf (by rw [hl];omega);obtain ⟨j,d1,hj,cL,e1⟩:=pick (m+1) (by omega) (k:=4) (by omega) (by omega) hd;by_cases h1:j=1
  ·obtain ⟨i,d2,hi,fh,e2⟩:=pick (m+1) (by omega) (k:=s.length) (by omega) (by have:=hs.1;omega) cL;refine ⟨5,s[i],d2,hs.2 _ (bL hi),fh,OS _ ?_⟩;refine dD hp (lX e1 ?_);dsimp only;refine dD (by subst h1;rfl) (lX (b:=(i:Int)) (p:=d2) (by rw [hl];exact e2) ?_);dsimp only;exact iI (v:=(s[i],())) (r:=[.str s[i]]) rfl (by simp [ia,hi]) (by simp) rfl rfl
  ·obtain ⟨k,d2,hk,fh,e2⟩:=IJ (m+1) (by omega) cL;refine ⟨k,[],d2,hk,fh,OS _ ?_⟩;refine dD hp (lX e1 ?_);dsimp only;refine bU (show ((j:Int)==1)=false from rR.2 (by omega)) ?_;rw [Z8];exact pO e2 rfl rfl
def mu (q:Nat):BB:=[UInt8.ofNat (119+q % 4)]
theorem Lu (q:Nat):([[.str [119]],[.str [120]],[.str [121]],[.str [122]]]:RR)[q % 4]? = some [.str (mu q)]:=by
 unfold mu;have:q % 4 < 4:=DZ _ (by omega);generalize q % 4=i at this;match i,this with
 | 0,_=>rfl
 | 1,_=>rfl
 | 2,_=>rfl
 | 3,_=>rfl
theorem Lv (q:Nat):mu q∈qn:=by
 unfold mu;have:q % 4 < 4:=DZ _ (by omega);generalize q % 4=i at this;match i,this with
 | 0,_=>decide
 | 1,_=>decide
 | 2,_=>decide
 | 3,_=>decide
theorem aaw {q r:Nat} (h:mu q=mu r):q % 4=r % 4:=by
 unfold mu at h;have h1:q % 4 < 4:=DZ _ (by omega);have h2:r % 4 < 4:=DZ _ (by omega);generalize q % 4=i at *;generalize r % 4=j at *;match i,h1,j,h2 with
 | 0,_,0,_=>rfl
 | 1,_,1,_=>rfl
 | 2,_,2,_=>rfl
 | 3,_,3,_=>rfl
 | 0,_,1,_=>cases h
 | 0,_,2,_=>cases h
 | 0,_,3,_=>cases h
 | 1,_,0,_=>cases h
 | 1,_,2,_=>cases h
 | 1,_,3,_=>cases h
 | 2,_,0,_=>cases h
 | 2,_,1,_=>cases h
 | 2,_,3,_=>cases h
 | 3,_,0,_=>cases h
 | 3,_,1,_=>cases h
 | 3,_,2,_=>cases h
theorem adL (q:Nat):((q:Int)).tmod 4=((q % 4:Nat):Int):=by
 rw [UF (by omega)];omega
theorem uE (l:RR) (x y:List D):l++[x].set 0 y=l++[y]:=rfl
theorem room {l:RR} {k:Nat} (h:l.length≤1000) (hk:k≤1000):(l.length==l.length&&true&&decide ((l.length+1) * k≤140737488355328))=true:=by
 have:(l.length+1) * k≤1001 * 1000:=UZ (by omega) hk;simp;omega
theorem abO:∀l:List AM,aW (l.map cM)=l.map cM
 | []=>rfl
 | a::t=>by
  simp only [fS,aW,abO t];rfl
theorem VB (m q:Nat) (hm:6≤m) (b:Bool) {s:List BB} (hs:nP s) (P:Nat) (hP:1≤P) (zp:P≤1000) (x3:au ao) (N fr:Nat) (hN:N≤3) (zA:fr < 4) :
  ∀(k i:Nat) (l:List AM) (d:au ao),N - i < k→i≤N→1≤i→l.length=i→(∀a∈l,Am P a)→l.map AM.mq=(List.range i).map (fun j=>mu (fr+j))→cT d→
   ∃(l':List AM) (d':au ao),nc P l'∧cT d'∧Kg (T m) q x3 k b (ia s) (P:Int) d (l.map cM) (N:Int) (fr:Int) (i:Int)=some (.one (lC (.im false) 4 (l'.map cM)),[bx ao d'])
 | 0,i,l,d,h,_,_,_,_,_,_=>by omega
 | k+1,i,l,d,h,hi,hi1,hl,aS,Jx,hd=>by
  by_cases af:i < N
  ·obtain ⟨kd,x,d1,hc,cL,e1⟩:=Ol m (by omega) b hs hd;obtain ⟨j,d2,hj,fh,e2⟩:=pick m (by omega) (k:=P) hP (by omega) cL;obtain ⟨l',d',h1,h2,h3⟩:=VB m q hm b hs P hP zp x3 N fr hN zA k (i+1) (l++[⟨mu (fr+i),kd,x,j⟩]) d2 (by omega) (by omega) (by omega) (by simp [hl])
    (by intro a ha;rw [dC] at ha;rcases ha with ha | ha;exact aS a ha;simp at ha;subst ha;exact ⟨Lv _,hc,hj⟩)
    (by rw [eg,Jx,Nh,eg];rfl) fh
   refine ⟨l',d',h1,h2,?_⟩;rw [Z7];refine dD (bf (by omega)) (DL (Lw m (by omega)) ?_);dsimp only;have hw:ak ((fr:Int)+(i:Int))=((fr+i:Nat):Int):=fY;refine iI (i:=(fr+i) % 4) (v:=(mu (fr+i),())) (by rw [hw,adL]) (Lu _) (by simp) rfl ?_;dsimp only;refine pO e1 rfl ?_;dsimp only;refine lX e2 (ei (room (by simp;omega) (by omega)) ?_);dsimp only;rw [uE,wI i];rw [show List.map cM l++[[D.str (mu (fr+i)),D.int .i64 kd,D.str x,D.int .i64 (j:Int)]]=List.map cM (l++[⟨mu (fr+i),kd,x,j⟩]) by simp [cM]];exact h3
  ·obtain rfl:i=N:=by omega
   refine ⟨l,d,⟨by omega,by omega,?_,aS⟩,hd,?_⟩
   ·rw [Jx];rw [List.nodup_iff_pairwise_ne,List.pairwise_map];refine List.Pairwise.imp_of_mem (R:=fun a b=>a < b) ?_ aeK;intro a c ha hc hac e;have:=aaw e;simp at ha hc;omega
   ·rw [Z7];refine bU (cg (by omega)) (ei (bf (by omega)) ?_);rw [dr,abO]
theorem ae1 (n:Nat) (hn:10≤n) (b:Bool) {s:List BB} (hs:nP s) (P:Nat) (hP:1≤P) (zp:P≤1000) {d:au ao} (hd:cT d) :
  ∃(l:List AM) (d':au ao),nc P l∧cT d'∧T n 74 [pE,.one (lC (.im b) 1 (ia s)),.one (iC P)] [bx ao d]=some (.one (lC (.im false) 4 (l.map cM)),[bx ao d']):=by
 obtain ⟨m,rfl⟩:=bm 2 n;obtain ⟨N,d1,hN,cL,e1⟩:=pick (m+1) (by omega) (k:=3) (by omega) (by omega) hd;obtain ⟨fr,d2,zA,fh,e2⟩:=pick (m+1) (by omega) (k:=4) (by omega) (by omega) cL;obtain ⟨kd,x,d3,hc,sy,e3⟩:=Ol (m+1) (by omega) b hs fh;obtain ⟨j,d4,hj,zw,e4⟩:=pick (m+1) (by omega) (k:=P) hP (by omega) sy;obtain ⟨l',d',h1,h2,h3⟩:=VB (m+1) (m+1) (by omega) b hs P hP zp d (N+1) fr (by omega) zA m 1 [⟨mu fr,kd,x,j⟩] d4 (by omega) (by omega) (by omega) rfl
  (by intro a ha;simp at ha;subst ha;exact ⟨Lv _,hc,hj⟩) rfl zw
 refine ⟨l',d',h1,h2,agq _ ?_⟩;refine lX e1 (lX e2 ?_);dsimp only;rw [akS];rw [show ak (1+(N:Int))=((N+1:Nat):Int) from fY];refine dD (bf (by omega)) (DL (Lw (m+1) (by omega)) ?_);dsimp only;have hw:ak ((fr:Int)+0)=(fr:Int):=fY;refine iI (i:=fr % 4) (v:=(mu fr,())) (by rw [hw,adL]) (Lu _) (by simp) rfl ?_;dsimp only;refine pO e3 rfl ?_;dsimp only;refine lX e4 (ei rfl ?_);exact h3
end
section
open Go Go.ax
variable {nm:BB}
def bI (k:Nat):BB:=[UInt8.ofNat (97+k)]
def da (many:Nat):RR:=(List.range many).map fun k=>[.str (bI k)]
structure PT where
 fr:BB
 to:BB
 t:Bool
 ms:List AM
def cP (p:PT):List D:=[.str p.fr,.str p.to,.sl (.im p.t) 4 (p.ms.map cM)]
theorem Ml:∀a:PT,2+1≤(cP a).length∧dS [DS.im 4] (List.take 1 (List.drop 2 (cP a)))=some ((fun p=>((p.t,p.ms.map cM),())) a):=(fun a=>⟨by simp [cP],rfl⟩)
theorem Dr:∀a:PT,0+3≤(cP a).length∧dS lh (List.take 3 (List.drop 0 (cP a)))=some ((fun p=>(p.fr,p.to,(p.t,p.ms.map cM),())) a):=(fun a=>⟨by simp [cP],rfl⟩)
def rk (P many:Nat) (p:PT):Prop:=(p.fr=[]∧p.to=[]∧p.ms=[])∨∃k m,k < many∧m < many∧k≠m∧p.fr=bI k∧p.to=bI m∧nc P p.ms
def kX (many:Nat) (ps:List PT):Prop:=2≤many∧many≤4∧1≤ps.length∧ps.length≤8∧∀p∈ps,rk ps.length many p
theorem abR:∀l:List PT,aW (l.map cP)=l.map cP
 | []=>rfl
 | a::t=>by
  simp only [fS,aW,abR t];rfl
theorem Sx:∀l:List BB,aW (l.map fun s=>[.str s])=l.map fun s=>[D.str s]
 | []=>rfl
 | a::t=>by
  simp only [fS,aW,Sx t];rfl
theorem aou (many:Nat):aW (da many)=da many:=by
 have:=Sx ((List.range many).map bI);rw [US] at this;exact this
theorem pJ (many:Nat):(da many).length=many:=by simp [da]
theorem aoZ {many:Nat} (h:many≠0):da many≠[]:=by
 intro e;have:=fW List.length e;rw [pJ] at this;exact h this
theorem nT {many k:Nat} (h:k < many):(da many)[k]? = some [.str (bI k)]:=by simp [da,h]
theorem g1 {r:RR} (h:r≠[]):(r.length==r.length && !r.isEmpty)=true:=by
 cases r with
 | nil=>exact absurd rfl h
 | cons=>simp
theorem g2 (r:RR):decide (0+r.length≤r.length)=true:=by simp
theorem apX {q k:Nat}:((q:Int)).tmod (k:Int)=((q % k:Nat):Int):=by
 rw [UF (by omega)];omega
def nq (r:RR):Tag×RR:=(match r with | []=>.im true | _=>.own,r)
theorem adK (r:RR) (x:List D):nq (r++[x])=(.own,r++[x]):=by
 cases r<;>rfl
theorem Vq (m q:Nat) (hm:10≤m) (b:Bool) {s:List BB} (hs:nP s) (many N:Nat) (h2:2≤many) (h4:many≤4) (hN:N≤6) (hN1:1≤N) (x4:au ao) (z:au nk) :
  ∀(k i:Nat) (ps:List PT) (d:au ao),N - i < k→i≤N→ps.length=i→(∀p∈ps,rk (N+1) many p)→cT d→
   ∃(Md:List PT) (d':au ao),kX many Md∧cT d'∧Kf (T m) q x4 k (many:Int) b (ia s) d z (N:Int) (nm,(.own,da many),nq (ps.map cP),()) (i:Int) =
    some (.agg [sC nm,lC (.im false) 1 (da many),lC (.im false) 3 (Md.map cP)],[bx ao d'])
 | 0,i,ps,d,h,_,_,_,_=>by omega
 | k+1,i,ps,d,h,hi,hl,aS,hd=>by
  have hz:(!decide ((many:Int)=0))=true:=by simp;omega
  by_cases af:i < N
  ·obtain ⟨j,d1,hj,cL,e1⟩:=pick m (by omega) (k:=many) (by omega) (by omega) hd;obtain ⟨j2,d2,lr,fh,e2⟩:=pick m (by omega) (k:=many - 1) (by omega) (by omega) cL;obtain ⟨ms,d3,Cc,sy,e3⟩:=ae1 m (by omega) b hs (N+1) (by omega) (by omega) fh;have Fu:(j+1+j2) % many < many:=DZ _ (by omega);have aB:j≠(j+1+j2) % many:=by
    intro e;by_cases hq:j+1+j2 < many
    ·rw [HN hq] at e;omega
    ·rw [Nat.mod_eq_sub_mod (by omega),HN (by omega)] at e;omega
   obtain ⟨Md,d',pv,zh,g3⟩:=Vq m q hm b hs many N h2 h4 hN hN1 x4 z k (i+1) (ps++[⟨bI j,bI ((j+1+j2) % many),false,ms⟩]) d3 (by omega) (by omega) (by simp [hl])
    (by intro a ha;rw [dC] at ha;rcases ha with ha | ha;exact aS a ha;simp at ha;subst ha;exact .inr ⟨j,_,hj,Fu,aB,rfl,rfl,Cc⟩) sy
   refine ⟨Md,d',pv,zh,?_⟩;rw [eg,show List.map cP [⟨bI j,bI ((j+1+j2) % many),false,ms⟩]=[cP ⟨bI j,bI ((j+1+j2) % many),false,ms⟩] from rfl,adK] at g3;rw [Z5];refine dD (bf (by omega)) (lX e1 ?_);dsimp only;rw [show ak ((many:Int) - 1)=((many - 1:Nat):Int) from fY];refine lX e2 (ei hz ?_);dsimp only;have hw:ak (ak ((j:Int)+1)+(j2:Int))=((j+1+j2:Nat):Int):=by rw [wI j];exact fY
   have hx:(ak (ak ((j:Int)+1)+(j2:Int))).tmod (many:Int)=(((j+1+j2) % many:Nat):Int):=by rw [hw,apX]
   have ml:=wI N;have JL:=wI i;cases ps with
   | nil=>
    refine uH (mE (sK (v:=(bI j,())) rfl (nT hj) (by simp) rfl ?_));dsimp only;refine sK (v:=(bI ((j+1+j2) % many),())) hx (nT Fu) (by simp) rfl ?_;dsimp only;rw [ml];refine adR e3 (ei rfl ?_);dsimp only;rw [JL];exact g3
   | cons p ps=>
    refine mE (mE (sK (v:=(bI j,())) rfl (nT hj) (by simp) rfl ?_));dsimp only;refine sK (v:=(bI ((j+1+j2) % many),())) hx (nT Fu) (by simp) rfl ?_;dsimp only;rw [ml];refine adR e3 (ei (room (by simp only [nq,cf];omega) (by omega)) ?_);dsimp only;rw [JL];exact g3
  ·obtain rfl:i=N:=by omega
   refine ⟨ps++[⟨[],[],true,[]⟩],d,⟨h2,h4,by simp,by simp;omega,?_⟩,hd,?_⟩
   ·intro p hp;rw [dC] at hp;rcases hp with hp | hp
    ·rw [ew,hl];exact aS p hp
    ·simp at hp;subst hp;exact .inl ⟨rfl,rfl,rfl⟩
   ·rw [Z5];refine bU (cg (by omega)) ?_;cases ps with
    | nil=>simp at hl;omega
    | cons p ps=>
     refine mE (ei (room (by simp only [nq,cf];omega) (by omega)) (mE (ei (g1 (aoZ (by omega))) (ei (g1 (by simp [nq])) (ei (g2 _) (ei (g2 _) ?_))))));simp only [zB,zW,zM,dr,aou];rw [uE,show ([D.str [],D.str [],D.sl (.im true) 4 []]:List D)=cP ⟨[],[],true,[]⟩ from rfl];rw [show (nq (List.map cP (p::ps))).2++[cP ⟨[],[],true,[]⟩]=List.map cP (p::ps++[⟨[],[],true,[]⟩]) by simp [nq],abR]
theorem adI {many:Nat} (h2:2≤many) (h4:many≤4):List.take (many - 0) (List.drop 0 ([[.str [97]],[.str [98]],[.str [99]],[.str [100]],[.str [101]]]:RR))=da many:=by
 match many,h2,h4 with
 | 2,_,_=>rfl
 | 3,_,_=>rfl
 | 4,_,_=>rfl
theorem NG (n:Nat) (hn:20≤n) (b:Bool) {s:List BB} (hs:nP s) (many:Nat) (h2:2≤many) (h4:many≤4) {d:au ao} (hd:cT d) :
  ∃(ps:List PT) (d':au ao),kX many ps∧cT d'∧T n 138 [pE,.one (sC nm),.one (iC many),.one (lC (.im b) 1 (ia s))] [bx ao d] =
   some (.agg [sC nm,lC (.im false) 1 (da many),lC (.im false) 3 (ps.map cP)],[bx ao d']):=by
 obtain ⟨m,rfl⟩:=bm 2 n;obtain ⟨N,d1,hN,cL,e1⟩:=pick (m+1) (by omega) (k:=6) (by omega) (by omega) hd;obtain ⟨ps,d',g1,g2,g3⟩:=Vq (nm:=nm) (m+1) (m+1) (by omega) b hs many (N+1) h2 h4 (by omega) (by omega) d ([],((.im true),[]),((.im true),[]),()) (m+1) 0 [] d1 (by omega) (by omega) rfl (by intro p hp;cases hp) cL;refine ⟨ps,d',g1,g2,agp _ ?_⟩;refine lX e1 (DL (acG (m+1) (by omega)) (qo (Ie _) ?_));dsimp only;rw [adI h2 h4];have hl:=pJ many;refine ei (bf (by simp;omega)) (ei ?_ (bU ?_ ?_))
 ·rw [hl];match many,h2,h4 with
  | 2,_,_=>rfl
  | 3,_,_=>rfl
  | 4,_,_=>rfl
 ·match many,h2,h4 with
  | 2,_,_=>rfl
  | 3,_,_=>rfl
  | 4,_,_=>rfl
 ·rw [akR,show ak (1+(N:Int))=((N+1:Nat):Int) from fY];exact g3
end
section
open Go Go.ax
variable {nm:BB}
theorem an5 {P:Nat} {a:AM} (h:Am P a):nc P [a]:=⟨by simp,by simp,by simp,fun x hx=>by simp at hx;subst hx;exact h⟩
theorem an6 {P:Nat} {a b:AM} (h:Am P a) (h':Am P b) (hn:a.mq≠b.mq):nc P [a,b]:=
 ⟨by simp,by simp,by simpa using hn,fun x hx=>by simp at hx;rcases hx with rfl | rfl;exact h;exact h'⟩
def sn (i:Nat) (go:BB) (k:Int) (x:BB) (nx:Nat):List D:=[.str (bI i),.str (bI (i+1)),.sl .own 4 [[.str go,.int .i64 k,.str x,.int .i64 (nx:Int)]]]
section
variable {m q:Nat} {b:Bool} {s:List BB} {x4:au ao} {z:au nk} {go dI:BB}
theorem SO (hm:10≤m) (hs:nP s) {M i:Nat} (hM:M≤4) (back:Bool) (hi:i+1 < M) {P:RR} (hP:P.length≤20) {d:au ao} (hd:cT d) :
  ∃(kd:Int) (x:BB) (d':au ao),(kd,x)∈iU∧cT d'∧∀k,um (T m) q x4 (k+1) (M:Int) b (ia s) d z (nm,(.own,da M),(.own,P),()) go dI back (i:Int) =
   um (T m) q x4 k (M:Int) b (ia s) d' z (nm,(.own,da M),(.own,P++[sn i go kd x (P.length+1)]),()) go dI back ((i+1:Nat):Int):=by
 obtain ⟨kd,x,d',hc,dz,e⟩:=Ol m (by omega) b hs hd;refine ⟨kd,x,d',hc,dz,fun k=>?_⟩;have hw:=wI i;have ml:ak (ae P.length+1)=((P.length+1:Nat):Int):=fY (by rw [bJ];omega) (by omega);rw [Z9,hw];refine dD (bf (by omega)) (mE (mE (sK (v:=(bI i,())) rfl (nT (by omega)) (by simp) rfl ?_)));dsimp only;refine sK (v:=(bI (i+1),())) rfl (nT (by omega)) (by simp) rfl ?_;dsimp only;refine pO e rfl (ei (room (by omega) (by omega)) ?_);dsimp only;rw [ml];rfl
theorem SN (hm:10≤m) {M i:Nat} (hM:M≤4) (h2:2≤M) (hi:i+1=M) {P:RR} (hP:P.length≤20) {d:au ao} (hd:cT d) :
  ∃(kd:Int) (d':au ao),(kd,[])∈iU∧cT d'∧∀k,um (T m) q x4 (k+1) (M:Int) b (ia s) d z (nm,(.own,da M),(.own,P),()) go dI true (i:Int) =
   zY (T m) q x4 q (M:Int) d' z (nm,(.own,da M),(.own,P++[[.str (bI (M - 1)),.str (bI 0),.sl .own 4 [[.str [111,107],.int .i64 kd,.str [],.int .i64 0]]]]),()) dI:=by
 obtain ⟨kd,d',hc,dz,e⟩:=IJ m (by omega) hd;refine ⟨kd,d',hc,dz,fun k=>?_⟩;have hw:=wI i;have ml:ak ((M:Int) - 1)=((M - 1:Nat):Int):=fY;rw [Z9,hw,ml];refine bU (cg (by omega)) (dD rfl (mE (mE (sK (v:=(bI (M - 1),())) rfl (nT (by omega)) (by simp) rfl ?_))));dsimp only;have hr:=nT (many:=M) (k:=0) (by omega);refine ei (bf (by rw [pJ];show 0 < M;omega)) (qo (b:=[.str (bI 0)]) (by simpa using hr) (ei rfl ?_));show aG _ _ _=_;refine pO e rfl (ei (room (by omega) (by omega)) ?_);rfl
abbrev uy (nm:BB) (M:Nat) (ps:List PT):V:=.agg [sC nm,lC (.im false) 1 (da M),lC (.im false) 3 (ps.map cP)]
abbrev pp (i j:Nat) (ms:List AM):PT:=⟨bI i,bI j,false,ms⟩
abbrev zb:PT:=⟨[],[],true,[]⟩
abbrev qA (go dI:BB) (k:Int):List D:=[.str (bI 0),.str (bI 1),.sl .own 4 [[.str go,.int .i64 k,.str [],.int .i64 1],[.str dI,.int .i64 0,.str [],.int .i64 0]]]
theorem t2b (k1 k2:Int) (d:au ao):zY (T m) (q+20) x4 (q+20) 2 d z (nm,(.own,da 2),(.own,[qA go dI k1]++[[.str (bI (2 - 1)),.str (bI 0),.sl .own 4 [[.str [111,107],.int .i64 k2,.str [],.int .i64 0]]]]),()) dI =
 some (uy nm 2 [pp 0 1 [⟨go,k1,[],1⟩,⟨dI,0,[],2⟩],pp 1 0 [⟨[111,107],k2,[],0⟩],zb],[bx ao d]):=by kernel_rfl
theorem t2n (k1:Int) (d:au ao):um (T m) (q+20) x4 (q+20) 2 b (ia s) d z (nm,(.own,da 2),(.own,[qA go dI k1]),()) go dI false 1 =
 some (uy nm 2 [pp 0 1 [⟨go,k1,[],0⟩,⟨dI,0,[],1⟩],zb],[bx ao d]):=by kernel_rfl
theorem t3b (k1 k2 k3:Int) (x:BB) (d:au ao):zY (T m) (q+20) x4 (q+20) 3 d z (nm,(.own,da 3),(.own,([qA go dI k1]++[sn 1 go k2 x 2])++[[.str (bI (3 - 1)),.str (bI 0),.sl .own 4 [[.str [111,107],.int .i64 k3,.str [],.int .i64 0]]]]),()) dI =
 some (uy nm 3 [pp 0 1 [⟨go,k1,[],1⟩,⟨dI,0,[],3⟩],pp 1 2 [⟨go,k2,x,2⟩],pp 2 0 [⟨[111,107],k3,[],0⟩],pp 1 2 [⟨dI,0,[],4⟩],zb],[bx ao d]):=by kernel_rfl
theorem t3n (k1 k2:Int) (x:BB) (d:au ao):um (T m) (q+20) x4 (q+19) 3 b (ia s) d z (nm,(.own,da 3),(.own,[qA go dI k1]++[sn 1 go k2 x 2]),()) go dI false 2 =
 some (uy nm 3 [pp 0 1 [⟨go,k1,[],1⟩,⟨dI,0,[],2⟩],pp 1 2 [⟨go,k2,x,0⟩],pp 1 2 [⟨dI,0,[],3⟩],zb],[bx ao d]):=by kernel_rfl
theorem t4b (k1 k2 k3 k4:Int) (x y:BB) (d:au ao):zY (T m) (q+20) x4 (q+20) 4 d z (nm,(.own,da 4),(.own,(([qA go dI k1]++[sn 1 go k2 x 2])++[sn 2 go k3 y 3])++[[.str (bI (4 - 1)),.str (bI 0),.sl .own 4 [[.str [111,107],.int .i64 k4,.str [],.int .i64 0]]]]),()) dI =
 some (uy nm 4 [pp 0 1 [⟨go,k1,[],1⟩,⟨dI,0,[],4⟩],pp 1 2 [⟨go,k2,x,2⟩],pp 2 3 [⟨go,k3,y,3⟩],pp 3 0 [⟨[111,107],k4,[],0⟩],pp 1 2 [⟨dI,0,[],5⟩],pp 2 3 [⟨dI,0,[],6⟩],zb],[bx ao d]):=by kernel_rfl
theorem t4n (k1 k2 k3:Int) (x y:BB) (d:au ao):um (T m) (q+20) x4 (q+18) 4 b (ia s) d z (nm,(.own,da 4),(.own,([qA go dI k1]++[sn 1 go k2 x 2])++[sn 2 go k3 y 3]),()) go dI false 3 =
 some (uy nm 4 [pp 0 1 [⟨go,k1,[],1⟩,⟨dI,0,[],3⟩],pp 1 2 [⟨go,k2,x,2⟩],pp 2 3 [⟨go,k3,y,0⟩],pp 1 2 [⟨dI,0,[],4⟩],pp 2 3 [⟨dI,0,[],5⟩],zb],[bx ao d]):=by kernel_rfl
end
theorem ao1 (m q:Nat) (hm:10≤m) (b:Bool) {s:List BB} (hs:nP s) {M:Nat} (h2:2≤M) (h4:M≤4) (x4:au ao) (z:au nk) {go dI:BB} (hg:go∈qn) (hq:dI∈qn) (aB:go≠dI) (back:Bool) {k1:Int} (hk:(k1,[])∈iU) {d:au ao} (hd:cT d) :
  ∃(ps:List PT) (d':au ao),kX M ps∧cT d'∧um (T m) (q+20) x4 (q+20) (M:Int) b (ia s) d z (nm,(.own,da M),(.own,[qA go dI k1]),()) go dI back 1=some (uy nm M ps,[bx ao d']):=by
 have h0:((0:Int),([]:BB))∈iU:=by decide
 have aS:[111,107]∈qn:=by decide
 have xT:∀{P i j a c x} {k:Int},i < M→j < M→i≠j→(k,x)∈iU→a < P→c < P→rk P M (pp i j [⟨go,k,x,a⟩,⟨dI,0,[],c⟩]):=fun h1 h2 h3 h4 h5 h6=>.inr ⟨_,_,h1,h2,h3,rfl,rfl,an6 ⟨hg,h4,h5⟩ ⟨hq,h0,h6⟩ aB⟩
 have lU:∀{P i j a l x} {k:Int},i < M→j < M→i≠j→l∈qn→(k,x)∈iU→a < P→rk P M (pp i j [⟨l,k,x,a⟩]):=fun h1 h2 h3 h4 h5 h6=>.inr ⟨_,_,h1,h2,h3,rfl,rfl,an5 ⟨h4,h5,h6⟩⟩
 have Df:∀{P},rk P M zb:=.inl ⟨rfl,rfl,rfl⟩;match M,h2,h4 with
 | 2,_,_=>
  cases back with
  | true=>
   obtain ⟨k2,d',hc,dz,e⟩:=SN (q:=q+20) (b:=b) (s:=s) (x4:=x4) (z:=z) (go:=go) (dI:=dI) hm (M:=2) (i:=1) (by omega) (by omega) rfl (P:=[qA go dI k1]) (by simp) hd;refine ⟨_,d',⟨by omega,by omega,?_,?_,?_⟩,dz,(e (q+19)).trans (t2b k1 k2 d')⟩
   ·simp
   ·simp
   ·intro p hp;simp only [gV,nB,nD] at hp;rcases hp with rfl | rfl | rfl
    ·exact xT (by omega) (by omega) (by omega) hk (by simp) (by simp)
    ·exact lU (by omega) (by omega) (by omega) aS hc (by simp)
    ·exact Df
  | false=>
   refine ⟨_,d,⟨by omega,by omega,?_,?_,?_⟩,hd,t2n k1 d⟩
   ·simp
   ·simp
   ·intro p hp;simp only [gV,nB,nD] at hp;rcases hp with rfl | rfl
    ·exact xT (by omega) (by omega) (by omega) hk (by simp) (by simp)
    ·exact Df
 | 3,_,_=>
  obtain ⟨k2,x,d1,dF,cL,e1⟩:=SO (q:=q+20) (b:=b) (s:=s) (x4:=x4) (z:=z) (go:=go) (dI:=dI) hm hs (M:=3) (i:=1) (by omega) back (by omega) (P:=[qA go dI k1]) (by simp) hd;cases back with
  | true=>
   obtain ⟨k3,d',hc,dz,e⟩:=SN (q:=q+20) (b:=b) (s:=s) (x4:=x4) (z:=z) (go:=go) (dI:=dI) hm (M:=3) (i:=2) (by omega) (by omega) rfl (P:=[qA go dI k1]++[sn 1 go k2 x 2]) (by simp) cL;refine ⟨_,d',⟨by omega,by omega,?_,?_,?_⟩,dz,(e1 (q+19)).trans ((e (q+18)).trans (t3b k1 k2 k3 x d'))⟩
   ·simp
   ·simp
   ·intro p hp;simp only [gV,nB,nD] at hp;rcases hp with rfl | rfl | rfl | rfl | rfl
    ·exact xT (by omega) (by omega) (by omega) hk (by simp) (by simp)
    ·exact lU (by omega) (by omega) (by omega) hg dF (by simp)
    ·exact lU (by omega) (by omega) (by omega) aS hc (by simp)
    ·exact lU (by omega) (by omega) (by omega) hq h0 (by simp)
    ·exact Df
  | false=>
   refine ⟨_,d1,⟨by omega,by omega,?_,?_,?_⟩,cL,(e1 (q+19)).trans (t3n k1 k2 x d1)⟩
   ·simp
   ·simp
   ·intro p hp;simp only [gV,nB,nD] at hp;rcases hp with rfl | rfl | rfl | rfl
    ·exact xT (by omega) (by omega) (by omega) hk (by simp) (by simp)
    ·exact lU (by omega) (by omega) (by omega) hg dF (by simp)
    ·exact lU (by omega) (by omega) (by omega) hq h0 (by simp)
    ·exact Df
 | 4,_,_=>
  obtain ⟨k2,x,d1,dF,cL,e1⟩:=SO (q:=q+20) (b:=b) (s:=s) (x4:=x4) (z:=z) (go:=go) (dI:=dI) hm hs (M:=4) (i:=1) (by omega) back (by omega) (P:=[qA go dI k1]) (by simp) hd;obtain ⟨k3,y,d2,gC,fh,e2⟩:=SO (q:=q+20) (b:=b) (s:=s) (x4:=x4) (z:=z) (go:=go) (dI:=dI) hm hs (M:=4) (i:=2) (by omega) back (by omega) (P:=[qA go dI k1]++[sn 1 go k2 x 2]) (by simp) cL;cases back with
  | true=>
   obtain ⟨k4,d',hc,dz,e⟩:=SN (q:=q+20) (b:=b) (s:=s) (x4:=x4) (z:=z) (go:=go) (dI:=dI) hm (M:=4) (i:=3) (by omega) (by omega) rfl (P:=([qA go dI k1]++[sn 1 go k2 x 2])++[sn 2 go k3 y 3]) (by simp) fh;refine ⟨_,d',⟨by omega,by omega,?_,?_,?_⟩,dz,(e1 (q+19)).trans ((e2 (q+18)).trans ((e (q+17)).trans (t4b k1 k2 k3 k4 x y d')))⟩
   ·simp
   ·simp
   ·intro p hp;simp only [gV,nB,nD] at hp;rcases hp with rfl | rfl | rfl | rfl | rfl | rfl | rfl
    ·exact xT (by omega) (by omega) (by omega) hk (by simp) (by simp)
    ·exact lU (by omega) (by omega) (by omega) hg dF (by simp)
    ·exact lU (by omega) (by omega) (by omega) hg gC (by simp)
    ·exact lU (by omega) (by omega) (by omega) aS hc (by simp)
    ·exact lU (by omega) (by omega) (by omega) hq h0 (by simp)
    ·exact lU (by omega) (by omega) (by omega) hq h0 (by simp)
    ·exact Df
  | false=>
   refine ⟨_,d2,⟨by omega,by omega,?_,?_,?_⟩,fh,(e1 (q+19)).trans ((e2 (q+18)).trans (t4n k1 k2 k3 x y d2))⟩
   ·simp
   ·simp
   ·intro p hp;simp only [gV,nB,nD] at hp;rcases hp with rfl | rfl | rfl | rfl | rfl | rfl
    ·exact xT (by omega) (by omega) (by omega) hk (by simp) (by simp)
    ·exact lU (by omega) (by omega) (by omega) hg dF (by simp)
    ·exact lU (by omega) (by omega) (by omega) hg gC (by simp)
    ·exact lU (by omega) (by omega) (by omega) hq h0 (by simp)
    ·exact lU (by omega) (by omega) (by omega) hq h0 (by simp)
    ·exact Df
theorem acH (n:Nat) (hn:40≤n) (b:Bool) {s:List BB} (hs:nP s) {M:Nat} (h2:2≤M) (h4:M≤4) {d:au ao} (hd:cT d) :
  ∃(ps:List PT) (d':au ao),kX M ps∧cT d'∧T n 188 [pE,.one (sC nm),.one (iC M),.one (lC (.im b) 1 (ia s))] [bx ao d]=some (uy nm M ps,[bx ao d']):=by
 obtain ⟨q,rfl⟩:∃q,n=q+20+1:=⟨n - 21,by omega⟩
 obtain ⟨j1,d1,xo,cL,e1⟩:=pick (q+20) (by omega) (k:=2) (by omega) (by omega) hd;obtain ⟨j2,d2,lr,fh,e2⟩:=pick (q+20) (by omega) (k:=2) (by omega) (by omega) cL;obtain ⟨j3,d3,hj3,sy,e3⟩:=pick (q+20) (by omega) (k:=2) (by omega) (by omega) fh;obtain ⟨k1,d4,hk,zw,e4⟩:=IJ (q+20) (by omega) sy;have aB:mu j1≠mu (2+j2):=fun h=>by have:=aaw h;omega
 obtain ⟨ps,d',pv,zh,g3⟩:=ao1 (nm:=nm) (q+20) q (by omega) b hs h2 h4 d ([],((.im true),[]),((.im true),[]),()) (Lv j1) (Lv (2+j2)) aB ((j3:Int)==1) hk zw;refine ⟨ps,d',pv,zh,agG _ ?_⟩;refine DL (acG (q+20) (by omega)) (qo (Ie _) ?_);dsimp only;rw [adI h2 h4];have hl:=pJ M;refine ei (bf (by simp;omega)) (ei ?_ (bU ?_ ?_))
 ·rw [hl];match M,h2,h4 with
  | 2,_,_=>rfl
  | 3,_,_=>rfl
  | 4,_,_=>rfl
 ·match M,h2,h4 with
  | 2,_,_=>rfl
  | 3,_,_=>rfl
  | 4,_,_=>rfl
 ·rw [ak4];refine DL (Lw (q+20) (by omega)) (lX e1 ?_);dsimp only;have l1:=Lu j1;rw [HN (by omega)] at l1;refine iI (v:=(mu j1,())) rfl l1 (by simp) rfl ?_;dsimp only;refine DL (Lw (q+20) (by omega)) (lX e2 ?_);dsimp only;have l2:=Lu (2+j2);rw [HN (by omega)] at l2;refine iI (i:=2+j2) (v:=(mu (2+j2),())) (fY) l2 (by simp) rfl ?_;dsimp only;refine lX e3 (pO e4 rfl (uH (mE ?_)));dsimp only;have ug:=nT (many:=M) (k:=0) (by omega);have jZ:=nT (many:=M) (k:=1) (by omega);refine ei (bf (by rw [pJ];show 0 < M;omega)) (qo (b:=[.str (bI 0)]) (by simpa using ug) (ei rfl ?_));show gd _ _=_;refine ei (bf (by rw [pJ];show 1 < M;omega)) (qo (b:=[.str (bI 1)]) (by simpa using jZ) (ei rfl ?_));show gd _ _=_;refine ei rfl ?_;rw [ak3];exact g3
theorem aoC (n:Nat) (hn:50≤n) (b:Bool) {s:List BB} (hs:nP s) {d:au ao} (hd:cT d) :
  ∃(M:Nat) (ps:List PT) (d':au ao),kX M ps∧cT d'∧T n 137 [pE,.one (sC nm),.one (lC (.im b) 1 (ia s))] [bx ao d]=some (uy nm M ps,[bx ao d']):=by
 obtain ⟨m,rfl⟩:=bm 1 n;obtain ⟨j,d1,hj,cL,e1⟩:=pick m (by omega) (k:=4) (by omega) (by omega) hd;have tY:∀ps:List PT,∀M:Nat,pj (.agg ec) (uy nm M ps)=some (nm,(false,da M),(false,ps.map cP),()):=fun ps M=>rfl
 match j,hj with
 | 0,_=>
  obtain ⟨ps,d',h1,h2,e⟩:=NG (nm:=nm) m (by omega) b hs 2 (by omega) (by omega) cL;exact ⟨2,ps,d',h1,h2,IP _ (lX e1 (dD rfl (pO e (tY ps 2) rfl)))⟩
 | 1,_=>
  obtain ⟨i,d2,hi,fh,e2⟩:=pick m (by omega) (k:=3) (by omega) (by omega) cL;obtain ⟨ps,d',h1,h2,e⟩:=acH (nm:=nm) m (by omega) b hs (M:=i+2) (by omega) (by omega) fh;refine ⟨i+2,ps,d',h1,h2,IP _ (lX e1 (bU rfl (dD rfl (lX e2 ?_))))⟩;dsimp only;rw [show ak (2+(i:Int))=((i+2:Nat):Int) from fY];exact pO e (tY ps (i+2)) rfl
 | 2,_=>
  obtain ⟨ps,d',h1,h2,e⟩:=NG (nm:=nm) m (by omega) b hs 3 (by omega) (by omega) cL;exact ⟨3,ps,d',h1,h2,IP _ (lX e1 (bU rfl (bU rfl (dD rfl (pO e (tY ps 3) rfl)))))⟩
 | 3,_=>
  obtain ⟨ps,d',h1,h2,e⟩:=acH (nm:=nm) m (by omega) b hs (M:=3) (by omega) (by omega) cL;exact ⟨3,ps,d',h1,h2,IP _ (lX e1 (bU rfl (bU rfl (bU rfl (pO e (tY ps 3) rfl)))))⟩
structure TN where
 kd:Int
 pr:BB
 t:Bool
 ms:List AM
def cN (p:TN):List D:=[.int .i64 p.kd,.str p.pr,.sl (.im p.t) 4 (p.ms.map cM)]
theorem SY:∀a:TN,0+3≤(cN a).length∧dS jB (List.take 3 (List.drop 0 (cN a)))=some ((fun t=>(t.kd,t.pr,(t.t,t.ms.map cM),())) a):=(fun a=>⟨by simp [cN],rfl⟩)
def De (P:Nat) (p:TN):Prop:=(p.kd=0∧p.pr=[]∧p.ms=[])∨((p.kd=1∨p.kd=2)∧(∃k,k < 2∧p.pr=bI k)∧nc P p.ms)
def Dc (ts:List TN):Prop:=1≤ts.length∧ts.length≤6∧∀p∈ts,De ts.length p
theorem Ss:∀l:List TN,aW (l.map cN)=l.map cN
 | []=>rfl
 | a::t=>by
  simp only [fS,aW,Ss t];rfl
end
section
open Go Go.ax
def lR:List BB:=[[97],[98],[99],[100],[101],[112],[122,122],[119],[120],[121],[122],[111,107],[109,97,105,110],[113]]
theorem vP (n:Nat) (hn:40≤n) {x:BB} (hx:x∈lR):T n 62 [.one (sC x)] []=some (.one (bC true),[]):=by
 simp only [lR,gV,nB,nD] at hx;rcases hx with rfl | rfl | rfl | rfl | rfl | rfl | rfl | rfl | rfl | rfl | rfl | rfl | rfl | rfl;all_goals (obtain ⟨m,rfl⟩:=bm 40 n;kernel_rfl)
theorem apS (n:Nat) (hn:60≤n) {k:Int} {x:BB} (hx:(k,x)∈iU):T n 165 [.agg [iC k,sC x]] []=some (.one (bC true),[]):=by
 simp only [iU,gV,nB,nD,fJ] at hx;rcases hx with ⟨rfl,rfl⟩ | ⟨rfl,rfl⟩ | ⟨rfl,rfl⟩ | ⟨rfl,rfl⟩ | ⟨rfl,rfl⟩ | ⟨rfl,rfl⟩ | ⟨rfl,rfl⟩ | ⟨rfl,rfl⟩ | ⟨rfl,rfl⟩ | ⟨rfl,rfl⟩ | ⟨rfl,rfl⟩ | ⟨rfl,rfl⟩ | ⟨rfl,rfl⟩;all_goals (obtain ⟨m,rfl⟩:=bm 60 n;kernel_rfl)
def mO (k:Int) (x:BB):BB:=if k=0 then [117,110,105,116] else if k=1 then [105,110,116] else if k=2 then [98,111,111,108] else if k=3 then [116,101,120,116] else if k=4 then [108,105,115,116] else [99,104,97,110,32]++x
theorem abK (n:Nat) (hn:80≤n) {k:Int} {x:BB} (hx:(k,x)∈iU):T n 17 [.agg [iC k,sC x]] []=some (.one (sC (mO k x)),[]):=by
 simp only [iU,gV,nB,nD,fJ] at hx;rcases hx with ⟨rfl,rfl⟩ | ⟨rfl,rfl⟩ | ⟨rfl,rfl⟩ | ⟨rfl,rfl⟩ | ⟨rfl,rfl⟩ | ⟨rfl,rfl⟩ | ⟨rfl,rfl⟩ | ⟨rfl,rfl⟩ | ⟨rfl,rfl⟩ | ⟨rfl,rfl⟩ | ⟨rfl,rfl⟩ | ⟨rfl,rfl⟩ | ⟨rfl,rfl⟩;all_goals (obtain ⟨m,rfl⟩:=bm 80 n;kernel_rfl)
def dg (k:Nat):BB:=[UInt8.ofNat (48+k)]
theorem Xh {p:Nat→BB→Prop} (h:p 0 [48]∧p 1 [49]∧p 2 [50]∧p 3 [51]∧p 4 [52]∧p 5 [53]∧p 6 [54]∧p 7 [55]∧p 8 [56]∧p 9 [57]) {k:Nat} (hk:k < 10):p k (dg k):=by
 obtain ⟨h0,h1,h2,h3,h4,h5,h6,h7,h8,h9⟩:=h;match k,hk with
 | 0,_=>exact h0
 | 1,_=>exact h1
 | 2,_=>exact h2
 | 3,_=>exact h3
 | 4,_=>exact h4
 | 5,_=>exact h5
 | 6,_=>exact h6
 | 7,_=>exact h7
 | 8,_=>exact h8
 | 9,_=>exact h9
theorem akc (n:Nat) (hn:20≤n) {k:Nat} (hk:k < 10):T n 57 [.one (iC k)] []=some (.one (sC (dg k)),[]):=by
 refine Xh (p:=fun k d=>T n 57 [.one (iC k)] []=some (.one (sC d),[])) ?_ hk;refine ⟨?_,?_,?_,?_,?_,?_,?_,?_,?_,?_⟩;all_goals (obtain ⟨m,rfl⟩:=bm 20 n;kernel_rfl)
theorem aob (n:Nat) (hn:20≤n) (b:Bool) {many:Nat} (h2:2≤many) (h4:many≤4):T n 95 [.one (lC (.im b) 1 (da many))] []=some (.one (bC true),[]):=by
 obtain ⟨m,rfl⟩:=bm 20 n;have:many=2∨many=3∨many=4:=by omega
 rcases this with rfl | rfl | rfl;all_goals (show _=_;kernel_rfl)
theorem YD (n:Nat) (hn:20≤n) (b:Bool) {many k:Nat} (h4:many≤4) (hk:k < many):T n 110 [.one (lC (.im b) 1 (da many)),.one (sC (bI k))] []=some (.one (bC true),[]):=by
 obtain ⟨m,rfl⟩:=bm 20 n;have h1:many=1∨many=2∨many=3∨many=4:=by omega
 have h2:k=0∨k=1∨k=2∨k=3:=by omega
 rcases h1 with rfl | rfl | rfl | rfl<;>rcases h2 with rfl | rfl | rfl | rfl<;>first | omega | (show _=_;kernel_rfl)
theorem aax {x:BB} (h:x∈qn):x∈lR:=by
 simp only [qn,gV,nB,nD] at h;rcases h with rfl | rfl | rfl | rfl | rfl<;>decide
theorem G8 {k:Nat} (h:k < 4):bI k∈lR:=by
 match k,h with
 | 0,_=>decide
 | 1,_=>decide
 | 2,_=>decide
 | 3,_=>decide
end
section
open Go Go.ax
theorem aa8:∀(l:List BB) (x:BB),qp (l.map fun s=>[.str s,.bool true]) x=l.contains x
 | [],x=>rfl
 | s::l,x=>by
  have ih:=aa8 l x;rw [List.contains_cons,←ih];show (bif x==s then true else qp (l.map fun s=>[.str s,.bool true]) x)=_;cases x==s<;>rfl
theorem aa9:∀(l:List BB) (x:BB),x∉l→qq (l.map fun s=>[.str s,.bool true]) x true=(l++[x]).map fun s=>[.str s,.bool true]
 | [],x,h=>rfl
 | s::l,x,h=>by
  rw [gV,not_or] at h;have ih:=aa9 l x h.2;show (bif x==s then _ else [.str s,.bool true]::qq (l.map fun s=>[.str s,.bool true]) x true)=_;rw [show (x==s)=false from rR.2 h.1,ih];rfl
theorem Pn {l:List AM} {i:Nat} {a:AM} (h:l[i]? = some a):(l.map cM)[i]? = some (cM a):=by rw [bO,h];rfl
theorem VD (m q:Nat) (hm:60≤m) (b:Bool) (P:Nat) (l:List AM) (aS:nc P l):∀(k i:Nat),l.length - i < k→i≤l.length→
  Lt (T m) q k (P:Int) (((l.take i).map AM.mq).map fun s=>[.str s,.bool true]) b (l.map cM) (ae (l.map cM).length) (i:Int)=some (.one (bC true),[])
 | 0,i,h,_=>by omega
 | k+1,i,h,hi=>by
  obtain ⟨o1,o2,o3,o4⟩:=aS;rw [ani];by_cases af:i < l.length
  ·have hg:l[i]? = some l[i]:=gE af;obtain ⟨p1,p2,p3⟩:=o4 l[i] (bL af);have JK:l.take (i+1)=l.take i++[l[i]]:=by rw [pT,hg];rfl
   have Y8:l[i].mq∉(l.take i).map AM.mq:=by
    have h1:((l.take (i+1)).map AM.mq).Nodup:=by
     rw [List.map_take];exact o3.sublist (List.take_sublist _ _)
    rw [JK,eg,HK] at h1;intro vz;exact h1.2.2 _ vz _ (by simp) rfl
   refine dD (bf (by rw [bJ,cf];omega)) (iI (v:=(l[i].mq,l[i].kd,l[i].nm,(l[i].nx:Int),())) rfl (Pn hg) (by simp [cM]) rfl ?_);dsimp only;refine nX (vP m (by omega) (aax p1)) (bU rfl (bU ?_ (nX (apS m hm p2) (bU rfl (bU (show decide ((l[i].nx:Int) < 0)=false from cg (by omega)) (bU (show decide ((l[i].nx:Int)≥(P:Int))=false from cg (by omega)) ?_))))))
   ·rw [aa8,List.contains_eq_mem];exact cg Y8
   ·rw [aa9 _ _ Y8,wI i];have ih:=VD m q hm b P l ⟨o1,o2,o3,o4⟩ k (i+1) (by omega) (by omega);rw [JK,eg] at ih;exact ih
  ·exact bU (cg (by rw [bJ,cf];omega)) rfl
theorem VC (n:Nat) (hn:70≤n) (b:Bool) {P:Nat} {l:List AM} (aS:nc P l):T n 108 [.one (lC (.im b) 4 (l.map cM)),.one (iC (P:Int))] []=some (.one (bC true),[]):=by
 obtain ⟨m,rfl⟩:=bm 2 n;refine ahC _ (bU (cg ?_) (bU (cg ?_) ?_))
 ·rw [bJ,cf];have:=aS.1;omega
 ·rw [bJ,cf];have:=aS.2.1;omega
 ·rw [anj];exact VD (m+1) (m+1) (by omega) b P l aS (m+1) 0 (by have:=aS.2.1;omega) (by omega)
theorem Ym {l:List TN} {i:Nat} {a:TN} (h:l[i]? = some a):(l.map cN)[i]? = some (cN a):=by rw [bO,h];rfl
def Sl (P:Nat) (p:TN):Prop:=(p.kd=0∧p.pr=[]∧p.ms=[])∨((p.kd=1∨p.kd=2)∧p.pr∈lR∧nc P p.ms)
theorem Gx (m q:Nat) (hm:80≤m) (b:Bool) (a0:au oT) (P:Nat) (hP:ae a0.2.1.2.length=(P:Int)) (l:List TN) (hl:l.length≤40) (aS:∀p∈l,Sl P p):∀(k i:Nat),l.length - i < k→i≤l.length→
  Lr (T m) (q+1) k a0 b (l.map cN) (ae (l.map cN).length) (i:Int)=some (.one (bC true),[])
 | 0,i,h,_=>by omega
 | k+1,i,h,hi=>by
  rw [anf];by_cases af:i < l.length
  ·have hg:l[i]? = some l[i]:=gE af;have ih:=Gx m q hm b a0 P hP l hl aS k (i+1) (by omega) (by omega);refine dD (bf (by rw [bJ,cf];omega)) (iI (v:=(l[i].kd,l[i].pr,(l[i].t,l[i].ms.map cM),())) rfl (Ym hg) (by simp [cN]) (by simp [cN,dS,ko]) ?_);dsimp only;have fin:Gs (T m) (q+1) k (q+1) a0 b (l.map cN) (ae (l.map cN).length) (i:Int) (l[i].kd,l[i].pr,(l[i].t,l[i].ms.map cM),())=some (.one (bC true),[]):=by
    rw [ang,wI i];exact ih
   rcases aS l[i] (bL af) with ⟨p1,p2,p3⟩ | ⟨p1,p2,p3⟩
   ·refine dD (by rw [p1];rfl) (bU (by rw [p2];rfl) (bU (by rw [p3];rfl) fin))
   ·rw [hP];rcases p1 with p1 | p1
    ·refine bU (by rw [p1];rfl) (dD (by rw [p1];rfl) (nX (vP m (by omega) p2) (bU rfl (nX (VC m (by omega) _ p3) (bU rfl fin)))))
    ·refine bU (by rw [p1];rfl) (bU (by rw [p1];rfl) (dD (by rw [p1];rfl) (nX (vP m (by omega) p2) (bU rfl (nX (VC m (by omega) _ p3) (bU rfl fin))))))
  ·exact bU (cg (by rw [bJ,cf];omega)) rfl
theorem ML (n:Nat) (hn:90≤n) (b:Bool) (nm:BB) {l:List TN} (h1:1≤l.length) (hl:l.length≤40) (aS:∀p∈l,Sl l.length p):T n 53 [.agg [sC nm,lC (.im b) 3 (l.map cN)]] []=some (.one (bC true),[]):=by
 obtain ⟨m,rfl⟩:=bm 2 n;refine ahB _ (bU (cg ?_) (bU (cg ?_) ?_))
 ·rw [bJ,cf];omega
 ·rw [bJ,cf];omega
 ·rw [anh];exact Gx (m+1) m (by omega) b _ l.length (by rw [bJ,cf]) l hl aS (m+1) 0 (by omega) (by omega)
theorem abl {P:Nat} {p:TN} (h:De P p):Sl P p:=by
 rcases h with h | ⟨h1,⟨k,h2,h3⟩,h4⟩
 ·exact .inl h
 ·exact .inr ⟨h1,h3▸G8 (by omega),h4⟩
def gN (p:PT):TN:=if p.ms=[] then ⟨0,[],p.t,[]⟩ else ⟨1,p.to,p.t,p.ms⟩
theorem Po {l:List PT} {i:Nat} {a:PT} (h:l[i]? = some a):(l.map cP)[i]? = some (cP a):=by rw [bO,h];rfl
theorem Yq (m q:Nat) (b:Bool) (z:au He) {P many:Nat} (l:List PT) (hl:l.length≤24) (aS:∀p∈l,rk P many p):∀(k i:Nat),l.length - i < k→i≤l.length→1≤l.length→
  J3 (T m) (q+1) k z ([],nq (((l.take i).map gN).map cN),()) b (l.map cP) (ae (l.map cP).length) (i:Int)=some (.agg [sC [],lC (.im false) 3 ((l.map gN).map cN)],[])
 | 0,i,h,_,_=>by omega
 | k+1,i,h,hi,h1=>by
  rw [akl];by_cases af:i < l.length
  ·have hg:l[i]? = some l[i]:=gE af;have JK:l.take (i+1)=l.take i++[l[i]]:=by rw [pT,hg];rfl
   have ih:=Yq m q b z l hl aS k (i+1) (by omega) (by omega) h1;rw [JK,eg,eg,show List.map cN (List.map gN [l[i]])=[cN (gN l[i])] from rfl,adK] at ih;refine dD (bf (by rw [bJ,cf];omega)) (iI (v:=(l[i].fr,l[i].to,(l[i].t,l[i].ms.map cM),())) rfl (Po hg) (by simp [cP]) (by simp [cP,dS,ko]) ?_);dsimp only;have hw:=wI i;have fin:∀(x:au ada) (kd:Int) (pr:BB),cN (gN l[i])=[.int .i64 kd,.str pr,.sl (.im l[i].t) 4 (l[i].ms.map cM)]→
     CA (T m) (q+1) k (q+1) z ([],nq (((l.take i).map gN).map cN),()) b (l.map cP) (ae (l.map cP).length) (i:Int) x (kd,pr,((.im l[i].t),l[i].ms.map cM),())=some (.agg [sC [],lC (.im false) 3 ((l.map gN).map cN)],[]):=by
    intro x kd pr hc;rw [akm,hw];have hlen:(((l.take i).map gN).map cN).length=i:=by simp;omega
    rw [hc] at ih;generalize ((l.take i).map gN).map cN=R at ih hlen ⊢;cases R with
    | nil=>exact uH (uH (ei rfl ih))
    | cons r R=>exact mE (uH (ei (room (by simp only [nq];omega) (by omega)) ih))
   rcases aS l[i] (bL af) with ⟨p1,p2,p3⟩ | ⟨k1,k2,_,_,_,p1,p2,p3⟩
   ·refine bU (by rw [p1];rfl) (bU (by rw [p2];rfl) (bU (by rw [p3];rfl) (fin _ _ _ ?_)));simp [gN,cN,p3]
   ·refine dD (by rw [p1];rfl) (fin _ _ _ ?_);have:l[i].ms≠[]:=by
     intro e;have:=p3.1;rw [e] at this;simp at this
    simp [gN,cN,this]
  ·obtain rfl:i=l.length:=by omega
   refine bU (cg (by rw [bJ,cf];omega)) ?_;rw [AZ];cases l with
   | nil=>simp at h1
   | cons p l=>
    refine mE (ei (g1 (by simp [nq])) (ei (g2 _) ?_));simp only [zB,zW,zM,dr,nq];rw [Ss]
theorem aiX (n:Nat) (hn:40≤n) (b b2:Bool) (nm:BB) (rs:RR) {P many:Nat} {l:List PT} (h1:1≤l.length) (hl:l.length≤24) (aS:∀p∈l,rk P many p) :
  T n 111 [.agg [sC nm,lC (.im b2) 1 rs,lC (.im b) 3 (l.map cP)]] []=some (.agg [sC [],lC (.im false) 3 ((l.map gN).map cN)],[]):=by
 obtain ⟨m,rfl⟩:=bm 2 n;exact afV _ (Yq (m+1) m b _ l hl aS (m+1) 0 (by omega) (by omega) h1)
theorem aca {nm:BB} (m q:Nat) (hm:100≤m) (bn:Bool) {b2 b:Bool} {many:Nat} {l:List PT} (h:kX many l):∀(k i:Nat),l.length - i < k→i≤l.length→
  FW (T m) (q+1) k (nm,(b2,da many),(b,l.map cP),()) b (l.map cP) (ae (l.map cP).length) (i:Int)=some (.one (bC true),[])
 | 0,i,h,_=>by omega
 | k+1,i,hk,hi=>by
  obtain ⟨o1,o2,o3,o4,o5⟩:=h;rw [akh];by_cases af:i < l.length
  ·have hg:l[i]? = some l[i]:=gE af;have ih:=aca (nm:=nm) m q hm bn (b2:=b2) (b:=b) ⟨o1,o2,o3,o4,o5⟩ k (i+1) (by omega) (by omega);have hw:=wI i;refine dD (bf (by rw [bJ,cf];omega)) (iI (v:=(l[i].fr,l[i].to,(l[i].t,l[i].ms.map cM),())) rfl (Po hg) (by simp [cP]) (by simp [cP,dS,ko]) ?_);dsimp only;rw [hw];rcases o5 l[i] (bL af) with ⟨p1,p2,p3⟩ | ⟨k1,k2,q1,q2,q3,p1,p2,p3⟩
   ·exact dD (by rw [p1];rfl) (dD (by rw [p2];rfl) (dD (by rw [p3];rfl) ih))
   ·refine bU (by rw [p1];rfl) ?_;rw [aki,hw];dsimp only;rw [p1,p2];refine nX (YD m (by omega) b2 o2 q1) (bU rfl (nX (YD m (by omega) b2 o2 q2) (bU rfl (bU ?_ ih))));rw [rR];intro e;have h1:k1 < 4:=by omega
    have h2:k2 < 4:=by omega
    unfold bI at e;match k1,h1,k2,h2 with
    | 0,_,0,_=>exact q3 rfl
    | 1,_,1,_=>exact q3 rfl
    | 2,_,2,_=>exact q3 rfl
    | 3,_,3,_=>exact q3 rfl
    | 0,_,1,_=>cases e
    | 0,_,2,_=>cases e
    | 0,_,3,_=>cases e
    | 1,_,0,_=>cases e
    | 1,_,2,_=>cases e
    | 1,_,3,_=>cases e
    | 2,_,0,_=>cases e
    | 2,_,1,_=>cases e
    | 2,_,3,_=>cases e
    | 3,_,0,_=>cases e
    | 3,_,1,_=>cases e
    | 3,_,2,_=>cases e
  ·refine bU (cg (by rw [bJ,cf];omega)) ?_;refine DM (v:=([],(false,(l.map gN).map cN),())) (aiX m (by omega) b b2 nm (da many) o3 (by omega) o5) (by rfl) ?_;refine nX (ML m (by omega) false [] (l:=l.map gN) (by simpa using o3) (by simp;omega) ?_) rfl;intro p hp;rw [iz] at hp;obtain ⟨x,hx,rfl⟩:=hp;rw [cf];rcases o5 x hx with ⟨p1,p2,p3⟩ | ⟨k1,k2,q1,q2,q3,p1,p2,p3⟩
   ·refine .inl ?_;simp [gN,p3]
   ·have:x.ms≠[]:=by
     intro e;have:=p3.1;rw [e] at this;simp at this
    refine .inr ?_;simp only [gN,this,dE];exact ⟨by simp,p2▸G8 (by omega),p3⟩
theorem acF {nm:BB} (m q:Nat) (hm:100≤m) {b2 b:Bool} {many:Nat} {l:List PT} (h:kX many l) (hq:60≤q):∀(k i:Nat),many - i < k→i≤many→
  J2 (T m) (q+1) k (nm,(b2,da many),(b,l.map cP),()) b2 (da many) (ae (da many).length) (i:Int)=some (.one (bC true),[])
 | 0,i,h,_=>by omega
 | k+1,i,hk,hi=>by
  have hlen:=pJ many;have h4:=h.2.1;rw [akj];by_cases af:i < many
  ·have ih:=acF (nm:=nm) m q hm (b2:=b2) (b:=b) h hq k (i+1) (by omega) (by omega);refine dD (bf (by rw [bJ,hlen];omega)) (iI (v:=(bI i,())) rfl (nT af) (by simp) rfl ?_);dsimp only;refine nX (vP m (by omega) (G8 (by omega))) (bU rfl ?_);rw [wI i];exact ih
  ·refine bU (cg (by rw [bJ,hlen];omega)) ?_;exact aca m q hm true h (q+1) 0 (by have:=h.2.2.2.1;omega) (by omega)
theorem Yp {nm:BB} (sD:nm∈lR) (n:Nat) (hn:120≤n) (b2 b:Bool) {many:Nat} {l:List PT} (h:kX many l):T n 55 [.agg [sC nm,lC (.im b2) 1 (da many),lC (.im b) 3 (l.map cP)]] []=some (.one (bC true),[]):=by
 obtain ⟨m,rfl⟩:=bm 2 n;have hlen:=pJ many;have h2:=h.1;have h4:=h.2.1;have h8:=h.2.2.2.1;refine afU _ (nX (vP (m+1) (by omega) sD) (bU rfl (bU (cg ?_) (bU (cg ?_) (nX (aob (m+1) (by omega) b2 h2 h4) (bU rfl (bU (cg ?_) ?_)))))))
 ·rw [bJ,hlen];omega
 ·rw [bJ,hlen];omega
 ·rw [bJ,cf];omega
 ·rw [akk];exact acF (m+1) m (by omega) h (by omega) (m+1) 0 (by omega) (by omega)
end
section
open Go Go.ax
theorem Hk (a b:BB):D.db (a++b)=D.db a++D.db b:=by unfold D.db;exact eg
theorem mD (a:BB):(D.db a).length=a.length:=by unfold D.db;exact cf _
theorem DJ:∀b:BB,kA (D.db b)=some b
 | []=>rfl
 | c::r=>by
  show (kA (D.db r)).map (UInt8.ofNat ((c.toNat:Int).toNat) :: ·)=some (c::r);rw [DJ r];show some (UInt8.ofNat c.toNat::r)=_;rw [UInt8.ofNat_toNat]
theorem MS (x:RR) (b:Bool):fR 1 x b=true:=by
 show (lS x||true)=true;exact Bool.or_true _
abbrev B0:au bl:=((),(.im true,[]),())
abbrev BW (t:BB):au bl:=((),(.own,D.db t),())
section
variable {m:Nat} {s t:BB} {z:OR}
theorem WO {x:au bl} (hm:1≤m) {K:Unit×au bl×Unit→OR} (h:K ((),x,())=z):c91 (T m) x K=z:=by
 obtain ⟨m,rfl⟩:=bm 1 m;obtain ⟨⟨⟩,⟨tg,r⟩,⟨⟩⟩:=x;have e:T (m+1) 91 [pE] [bx bl ((),(tg,r),())]=some (.aq [],[bx bl ((),(tg,r),())]):=by kernel_rfl
 exact T1 e h
theorem adQ {o:OR} {i:Int} {ds:List DS} {p:au ds} {K:(Int×Bool×Unit)×au ds×Unit→OR} {y:OR} (h:o=some (.aq [.one (iC i),.one .fQ],[bx ds p])) (h2:K ((i,true,()),p,())=y):aG (.aq [.one (.int .i64),.fj] [ds]) o K=y:=by
 subst h;simp only [aG,ik,IK];exact h2
theorem W8 (hm:2≤m) (hs:s≠[]) (hl:s.length≤100000000000000) {K:(Int×Bool×Unit)×au bl×Unit→OR} (h:∀n:Int,K ((n,true,()),BW s,())=z):du (T m) s B0 K=z:=by
 obtain ⟨m,rfl⟩:=bm 1 m;refine adQ (i:=ae s.length) (OU _ (WO (by omega) (uH (ei ?_ (bU ?_ rfl))))) (h _)
 ·rw [MS,mD];simp;omega
 ·cases s with
  | nil=>exact absurd rfl hs
  | cons=>rfl
theorem qS (hm:2≤m) (hl:t.length+s.length≤100000000000000) {K:(Int×Bool×Unit)×au bl×Unit→OR} (h:∀n:Int,K ((n,true,()),BW (t++s),())=z):du (T m) s (BW t) K=z:=by
 obtain ⟨m,rfl⟩:=bm 1 m;refine adQ (i:=ae s.length) (OU _ (WO (by omega) (mE (ei ?_ ?_)))) (h _)
 ·dsimp only [zM];rw [MS,mD,mD];simp;omega
 ·exact fW (fun x:RR=>(some (V.aq [.one (iC (ae s.length)),.one .fQ],[bx bl ((),(Tag.own,x),())]):OR)) (Hk t s).symm
theorem OB (hm:2≤m) (ht:t≠[]) (hl:t.length≤100000000000000) {K:BB×au yr×Unit→OR} (h:K (t,((),(),()),())=z):c37 (T m) (BW t) K=z:=by
 obtain ⟨m,rfl⟩:=bm 1 m;have h0:((D.db t).length==0)=false:=by
  rw [mD];cases t with
  | nil=>exact absurd rfl ht
  | cons=>rfl
 refine ap6 (Xp _ (mE (ei ?_ (ei ?_ (qo (DJ t) rfl))))) h
 ·dsimp only;rw [h0];rfl
 ·dsimp only;rw [h0,mD];simp;omega
theorem afx (hm:1≤m) {n:Nat} (h1:1≤n) (h2:n≤100000000000000) {K:Unit×au bl×Unit→OR} (h:K ((),BW [],())=z):V5 (T m) (n:Int) B0 K=z:=by
 obtain ⟨m,rfl⟩:=bm 1 m;have hd:decide ((1:Int)≤(n:Int)∧(n:Int)≤140737488355328)=true:=bf ⟨by omega,by omega⟩
 have e : T (m + 1) 112 [pE, .one (iC (n : Int))] [bx bl B0] = (match Nat.beq 89 89, decide ((1 : Int) ≤ (n : Int) ∧ (n : Int) ≤ 140737488355328) with
     | true, true => some (.aq [], [bx bl (BW [])])
     | _, _ => none) := by kernel_rfl
 rw [hd] at e;exact T1 e h
def kW (l:List BB):BB:=l.flatMap fun y=>[44,32]++y
def iJ:List BB→BB
 | []=>[]
 | x::t=>x++kW t
abbrev strs (l:List BB):RR:=l.map fun s=>[.str s]
theorem adG {l:List BB} {i:Nat} (h:i < l.length):(strs l)[i]? = some [.str l[i]]:=by
 rw [bO,gE h];rfl
theorem ZQ:∀l:List BB,(∀y∈l,y.length≤10000000)→(kW l).length≤10000002 * l.length
 | [],_=>by simp [kW]
 | y::l,h=>by
  have h1:=h y (jT ..);have h2:=ZQ l fun y hy=>h y (kE _ hy)
  simp only [kW,HE,ew,gp,jD] at h2 ⊢;omega
theorem akd {l:List BB} {i:Nat} (h:i < l.length):kW (l.take (i+1))=kW (l.take i)++[44,32]++l[i]:=by
 unfold kW;rw [pT,gE h,List.flatMap_append,show List.flatMap (fun y=>[44,32]++y) (some l[i]).toList=[44,32]++l[i] by simp,←eo]
theorem ZR (q:Nat) (hm:2≤m) (b:Bool) (l:List BB) (hl:l.length≤200) (hy:∀y∈l,y.length≤10000000) (t:BB) (ht:t++kW l≠[]) (sI:t.length≤10000000):∀(k i:Nat),l.length - i < k→i≤l.length→
  xK (T m) (q+1) k [44,32] (BW (t++kW (l.take i))) b (strs l) (ae l.length) (i:Int)=some (.one (sC (t++kW l)),[])
 | 0,i,h,_=>by omega
 | k+1,i,h,hi=>by
  have h8:=ZQ (l.take i) fun y fO=>hy y (tD fO)
  rw [AX] at h8;have h9:min i l.length≤200:=by omega
  rw [am8];by_cases af:i < l.length
  ·have ih:=ZR q hm b l hl hy t ht sI k (i+1) (by omega) (by omega);have hyi:=hy l[i] (bL af);refine dD (bf (by rw [bJ];omega)) (iI (v:=(l[i],())) rfl (adG af) (by simp) rfl ?_);dsimp only;refine qS hm (by simp;omega) fun _=>dD rfl (qS hm (by simp;omega) fun _=>dD rfl ?_)
   dsimp only;rw [wI i];rw [akd af] at ih;rw [eo,eo,←eo (kW (l.take i))];exact ih
  ·obtain rfl:i=l.length:=by omega
   rw [AZ] at h8 ⊢;refine bU (cg (by rw [bJ];omega)) (OB hm ht (by simp;omega) rfl)
theorem adH (q:Nat) (hm:2≤m) (b:Bool) (x:BB) (l:List BB) (hx:x++kW l≠[]) (hl:l.length≤200) (hy:∀y∈x::l,y.length≤10000000) (hq:l.length≤q):∀(k i s:Nat),l.length+1 - i < k→i≤l.length+1→1≤s→s≤1000+10000000 * i→
  Lq (T m) (q+1) k b (strs (x::l)) [44,32] (s:Int) b (strs (x::l)) (ae (strs (x::l)).length) (i:Int)=some (.one (sC (iJ (x::l))),[])
 | 0,i,s,h,_,_,_=>by omega
 | k+1,i,s,h,hi,h1,hs=>by
  rw [am9];have hlen:ae (strs (x::l)).length=((l.length+1:Nat):Int):=by simp [ae]
  by_cases af:i < (x::l).length
  ·have hyi:=hy (x::l)[i] (bL af);have vy:i < l.length+1:=by simpa using af
   have hw:ak (9223372036854775807 - (s:Int))=9223372036854775807 - (s:Int):=DQ (by omega) (by omega);have ih:=adH q hm b x l hx hl hy hq k (i+1) (s+(x::l)[i].length) (by omega) (by omega) (by omega) (by omega);refine dD (by rw [hlen];exact bf (by omega)) (iI (v:=((x::l)[i],())) rfl (adG af) (by simp) rfl ?_);dsimp only;refine bU (by rw [hw];exact cg (by rw [bJ];omega)) ?_;rw [wI i,show ak ((s:Int)+ae (x::l)[i].length)=((s+(x::l)[i].length:Nat):Int) from fY (by rw [bJ];omega) (by omega)];exact ih
  ·have vJ:=hy x (jT ..);have vy:¬ i < l.length+1:=by simpa using af
   refine bU (by rw [hlen];exact cg (by omega)) (afx (by omega) h1 (by omega) (qo (b:=[.str x]) rfl (ei rfl ?_)));show du (T m) x (BW []) _=_;refine qS hm (by simp;omega) fun _=>dD rfl (ei ?_ ?_)
   ·simp
   ·have hd:List.take ((strs (x::l)).length - Int.toNat 1) (List.drop 1 (strs (x::l)))=strs l:=by
     show List.take ((strs l).length+1 - 1) (strs l)=_;rw [Nat.add_sub_cancel,AZ]
    rw [hd,show ae (strs l).length=ae l.length by rw [cf]];have:=ZR q hm b l hl (fun y h=>hy y (kE _ h)) x hx (by omega) (q+1) 0 (by omega) (by omega);rw [show kW (l.take 0)=[] from rfl,mH] at this;exact this
theorem Ov {l:List BB} (hm:l.length+10≤m) (b:Bool) (hl:l.length≤200) (hy:∀y∈l,y.length≤10000000) {K:BB×Unit→OR} (h:K (iJ l,())=z):oi (T m) b (strs l) [44,32] K=z:=by
 obtain ⟨m,rfl⟩:=bm 2 m;cases l with
 | nil=>exact tf (Xo _ (dD rfl rfl)) h
 | cons x l=>
  refine tf (Xo _ ?_) h;cases l with
  | nil=>exact bU rfl (dD rfl (qo (b:=[.str x]) rfl (ei rfl (by rw [show iJ [x]=x from mH x];rfl))))
  | cons y l=>
   have hlen:ae (strs (x::y::l)).length=((l.length+2:Nat):Int):=by simp [ae];omega
   have gi:l.length+2≤200:=by simpa using hl
   have Y6:l.length+2+10≤m+2:=by simpa using hm
   have hw:ak (ae (strs (x::y::l)).length - 1)=((l.length+1:Nat):Int):=by rw [hlen];exact fY
   refine bU (by rw [hlen];exact rR.2 (by omega)) (bU (by rw [hlen];exact rR.2 (by omega)) (dD rfl (ei ?_ (bU ?_ ?_))))
   ·rw [hw];simp;omega
   ·rw [hw];have h3:2 < Int.tdiv 9223372036854775807 ((l.length+1:Nat):Int):=by
     rw [M8 (by omega)];have:(3:Int)≤9223372036854775807 / ((l.length+1:Nat):Int):=Int.le_ediv_of_mul_le (by omega) (by omega);omega
    have h4:Int.tdiv 9223372036854775807 ((l.length+1:Nat):Int)≤9223372036854775807:=by
     rw [M8 (by omega)];exact Int.ediv_le_self _ (by omega)
    rw [DQ (by omega) h4];exact cg (by show ¬ ((2:Int)≥_);omega)
   ·rw [am',ana,hw]
    rw [show ak (0 + ak (ae (List.length ([44, 32] : BB)) * ((l.length + 1 : Nat) : Int))) = ((2 * (l.length + 1) : Nat) : Int) by
      rw [show ae (List.length ([44, 32] : BB)) = 2 from rfl, show ak ((2 : Int) * ((l.length + 1 : Nat) : Int)) = ((2 * (l.length + 1) : Nat) : Int) from fY]
      exact fY]
    exact adH m (by omega) b x (y::l) (by simp [kW]) (by simp;omega) hy (by simp;omega) (m+1) 0 (2 * (l.length+1)) (by simp;omega) (by omega) (by omega) (by omega)
theorem WY (hm:70≤m) {l:List BB} (b:Bool) (h1:l≠[]) (aB:∀y∈l,y≠[]) (hl:l.length≤50) (hy:∀y∈l,y.length≤100) {K:BB×Unit→OR} (h:K (iJ l,())=z):oi (T m) b (strs l) [44,32] K=z:=
 Ov (by omega) b (by omega) (fun y fO=>by have:=hy y fO;omega) h
end
end
section
open Go Go.ax
def uY (x:AM):BB:=x.mq++[40]++mO x.kd x.nm++[41,32]++dg x.nx
def nE (l:List AM):BB:=[32,123,32]++iJ (l.map uY)++[32,125]
def pI (i:Nat) (p:PT):BB:=([32,32]++dg i++[58,32])++(if p.ms=[] then [101,110,100,10] else p.fr++[32,45,62,32]++p.to++nE p.ms++[10])
def yd:Nat→List PT→BB
 | _,[]=>[125,10]
 | i,p::t=>pI i p++yd (i+1) t
def qw (nm:BB) (M:Nat) (ps:List PT):BB:=([112,114,111,116,111,99,111,108,32]++nm++[32,114,111,108,101,115,32]++iJ ((List.range M).map bI)++[32,123,10])++yd 0 ps
def pN (i:Nat) (p:TN):BB:=([32,32]++dg i++[58,32])++(if p.ms=[] then [101,110,100,10] else if p.kd=1 then [116,111,32]++p.pr++nE p.ms++[10] else [102,114,111,109,32]++p.pr++nE p.ms++[10])
def wB:Nat→List TN→BB
 | _,[]=>[125,10]
 | i,p::t=>pN i p++wB (i+1) t
def xO (ts:List TN):BB:=([108,111,99,97,108,32]++[122,122]++[32,123,10])++wB 0 ts
theorem Ry {x:BB} (h:x∈qn):x.length≤2:=by
 simp only [qn,gV,nB,nD] at h;rcases h with rfl | rfl | rfl | rfl | rfl<;>decide
theorem Iv {k:Int} {x:BB} (h:(k,x)∈iU):(mO k x).length≤8:=by
 simp only [iU,gV,nB,nD,fJ] at h;rcases h with ⟨rfl,rfl⟩ | ⟨rfl,rfl⟩ | ⟨rfl,rfl⟩ | ⟨rfl,rfl⟩ | ⟨rfl,rfl⟩ | ⟨rfl,rfl⟩ | ⟨rfl,rfl⟩ | ⟨rfl,rfl⟩ | ⟨rfl,rfl⟩ | ⟨rfl,rfl⟩ | ⟨rfl,rfl⟩ | ⟨rfl,rfl⟩ | ⟨rfl,rfl⟩<;>decide
theorem OJ (k:Nat):(dg k).length=1:=rfl
theorem NJ {P:Nat} {x:AM} (h:Am P x):(uY x).length≤14:=by
 have:=Ry h.1;have:=Iv h.2.1;simp only [uY,ew,gp,jD,OJ];omega
theorem Ra (l:List BB) (h:∀y∈l,y.length≤14):(iJ l).length≤16 * l.length:=by
 cases l with
 | nil=>simp [iJ]
 | cons x l=>
  have h1:=h x (jT ..);have h2:∀l:List BB,(∀y∈l,y.length≤14)→(kW l).length≤16 * l.length:=by
   intro l;induction l with
   | nil=>intro _;simp [kW]
   | cons y l ih=>
    intro h;have h1:=h y (jT ..);have h2:=ih fun y hy=>h y (kE _ hy)
    simp only [kW,HE,ew,gp,jD] at h2 ⊢;omega
  have:=h2 l fun y hy=>h y (kE _ hy)
  simp only [iJ,ew,gp];omega
theorem Ei {P:Nat} {l:List AM} (h:nc P l):(nE l).length≤60:=by
 have h1 := Ra (l.map uY) (by
   intro y hy
   rw [iz] at hy
   obtain ⟨x, hx, rfl⟩ := hy
   exact NJ (h.2.2.2 x hx))
 have:=h.2.1;rw [cf] at h1;simp only [nE,ew,gp,jD];omega
section
variable {m:Nat} {z:OR}
theorem Iy (hm:20≤m) {k:Nat} (hk:k < 10) {K:BB×Unit→OR} (h:K (dg k,())=z):Es (T m) (k:Int) K=z:=tf (akc m hm hk) h
theorem II (hm:80≤m) {k:Int} {x:BB} (hx:(k,x)∈iU) {K:BB×Unit→OR} (h:K (mO k x,())=z):Bh (T m) k x K=z:=tf (abK m hm hx) h
theorem abG (q:Nat) (hm:80≤m) (b:Bool) {P:Nat} (hP:P≤10) {l:List AM} (aS:nc P l):∀(k i:Nat),l.length - i < k→i≤l.length→
  J8 (T m) (q+1) k (strs ((l.take i).map uY)) b (l.map cM) (ae (l.map cM).length) (i:Int)=some (.one (sC (nE l)),[])
 | 0,i,h,_=>by omega
 | k+1,i,h,hi=>by
  have h3:=aS.2.1;rw [akA];by_cases af:i < l.length
  ·have ih:=abG q hm b hP aS k (i+1) (by omega) (by omega);have hg:l[i]? = some l[i]:=gE af;obtain ⟨o1,o2,o3⟩:=aS.2.2.2 l[i] (bL af);have n1:=Ry o1;have n2:=Iv o2;rw [pT,hg] at ih;refine dD (bf (by rw [bJ,cf];omega)) (iI (v:=(l[i].mq,l[i].kd,l[i].nm,(l[i].nx:Int),())) rfl (Pn hg) (by simp [cM]) rfl ?_);dsimp only;refine ei (bf (by omega)) (II hm o2 (jr (by simp;omega) (jr (by simp;omega) (Iy (by omega) (by omega) (jr (by simp [dg];omega) (ei (room (by simp;omega) (by omega)) ?_))))));dsimp only;rw [dr,uE,wI i];rw [eg,show ∀a b:List BB,strs (a++b)=strs a++strs b from fun a b=>eg] at ih;exact ih
  ·obtain rfl:i=l.length:=by omega
   have hj := Ra (l.map uY) (by
     intro y hy
     rw [iz] at hy
     obtain ⟨x, hx, rfl⟩ := hy
     exact NJ (aS.2.2.2 x hx))
   rw [cf] at hj;rw [AZ];refine bU (cg (by rw [bJ,cf];omega)) (ei (g2 _) ?_);rw [dr,Sx];refine WY (by omega) false ?_ ?_ (by simp;omega) ?_ (ei (bf ?_) (jr ?_ rfl))
   ·have:=aS.1;intro e;rw [List.map_eq_nil_iff] at e;rw [e] at this;simp at this
   ·intro y hy;rw [iz] at hy;obtain ⟨x,hx,rfl⟩:=hy;simp [uY]
   ·intro y hy;rw [iz] at hy;obtain ⟨x,hx,rfl⟩:=hy;have:=NJ (aS.2.2.2 x hx);omega
   ·dsimp only;omega
   ·simp;omega
theorem OA (hm:100≤m) (b:Bool) {P:Nat} (hP:P≤10) {l:List AM} (aS:nc P l) {K:BB×Unit→OR} (h:K (nE l,())=z):yU (T m) b (l.map cM) K=z:=by
 obtain ⟨m,rfl⟩:=bm 2 m;refine tf (af7 _ ?_) h;have h1:=aS.1;have af:0 < l.length:=by omega
 have hg:l[0]? = some l[0]:=gE af;obtain ⟨o1,o2,o3⟩:=aS.2.2.2 l[0] (bL af);have n1:=Ry o1;have n2:=Iv o2;have h3:=aS.2.1;rw [akz];refine dD (bf (by rw [bJ,cf];omega)) (iI (i:=0) (v:=(l[0].mq,l[0].kd,l[0].nm,(l[0].nx:Int),())) rfl (Pn hg) (by simp [cM]) rfl ?_);dsimp only;refine ei (bf (by omega)) (II (by omega) o2 (jr (by simp;omega) (jr (by simp;omega) (Iy (by omega) (by omega) (jr (by simp [dg];omega) (ei rfl ?_))))));dsimp only;have:=abG (m:=m+1) m (by omega) b hP aS m 1 (by omega) (by omega);rw [pT,hg] at this;exact this
theorem aoD {P many i:Nat} {p:PT} (h:rk P many p):(pI i p).length≤80:=by
 rcases h with ⟨p1,p2,p3⟩ | ⟨k1,k2,q1,q2,q3,p1,p2,p3⟩
 ·simp [pI,p3,dg]
 ·have:=Ei p3;have h1:p.fr.length=1:=by rw [p1];rfl
  have h2:p.to.length=1:=by rw [p2];rfl
  have h3:p.ms≠[]:=by
   intro e;have:=p3.1;rw [e] at this;simp at this
  simp only [pI,h3,dE,ew,gp,jD,OJ];omega
theorem acb (q:Nat) (hm:110≤m) (b:Bool) {P many:Nat} (hP:P≤10) {l:List PT} (hl:l.length≤10) (aS:∀p∈l,rk P many p):∀(k i:Nat) (t:BB),l.length - i < k→i≤l.length→t≠[]→t.length≤100+80 * i→
  ra (T m) (q+1) k (BW t) b (l.map cP) (ae (l.map cP).length) (i:Int)=some (.one (sC (t++yd i (l.drop i))),[])
 | 0,i,t,h,_,_,_=>by omega
 | k+1,i,t,h,hi,ht,sI=>by
  rw [akw];by_cases af:i < l.length
  ·have hg:l[i]? = some l[i]:=gE af;have hd:l.drop i=l[i]::l.drop (i+1):=tA af;have hp:=aS l[i] (bL af);have cr:=aoD (i:=i) hp;have ih:=acb q hm b hP hl aS k (i+1) (t++pI i l[i]) (by omega) (by omega) (by simp [ht]) (by simp only [ew];omega);have hw:=wI i;rw [eo] at ih;refine dD (bf (by rw [bJ,cf];omega)) (iI (v:=(l[i].fr,l[i].to,(l[i].t,l[i].ms.map cM),())) rfl (Po hg) (by simp [cP]) (by simp [cP,dS,ko]) ?_);dsimp only;refine Iy (by omega) (by omega) (ei (bf (by simp [dg])) (jr (by simp [dg]) (qS (by omega) (by simp [dg];omega) fun _=>dD rfl ?_)));dsimp only;rw [hw,hd,show yd i (l[i]::l.drop (i+1))=pI i l[i]++yd (i+1) (l.drop (i+1)) from rfl];rcases hp with ⟨p1,p2,p3⟩ | ⟨k1,k2,q1,q2,q3,p1,p2,p3⟩
   ·rw [show pI i l[i]=([32,32]++dg i++[58,32])++[101,110,100,10] by simp only [pI,p3,bV]] at ih ⊢;rw [←eo t] at ih;refine dD (by rw [p3];rfl) (qS (by omega) (by simp [dg];omega) fun _=>dD rfl ?_);exact ih
   ·have h3:l[i].ms≠[]:=by
     intro e;have:=p3.1;rw [e] at this;simp at this
    have vk:=Ei p3;have h1:l[i].fr.length=1:=by rw [p1];rfl
    have h2:l[i].to.length=1:=by rw [p2];rfl
    rw [show pI i l[i]=([32,32]++dg i++[58,32])++(l[i].fr++[32,45,62,32]++l[i].to++nE l[i].ms++[10]) by simp only [pI,h3,dE]] at ih ⊢;rw [←eo t] at ih;refine bU ?_ (jr (by omega) (jr (by simp;omega) (OA (by omega) _ hP p3 (jr (by simp;omega) (jr (by simp;omega) (qS (by omega) (by simp [dg];omega) fun _=>dD rfl ?_))))))
    ·rw [bJ,cf];exact rR.2 (by have:=p3.1;omega)
    ·exact ih
  ·obtain rfl:i=l.length:=by omega
   rw [List.drop_length];refine bU (cg (by rw [bJ,cf];omega)) (qS (by omega) (by simp;omega) fun _=>dD rfl ?_);exact OB (by omega) (by simp) (by simp;omega) rfl
theorem afI {nm:BB} (sD:nm∈lR) (nM:nm.length≤1) (hm:130≤m) (b2 b:Bool) {many:Nat} {l:List PT} (h:kX many l) {K:BB×Unit→OR} (hK:K (qw nm many l,())=z):Wd (T m) nm b2 (da many) b (l.map cP) K=z:=by
 obtain ⟨m,rfl⟩:=bm 2 m;have hr:da many=strs ((List.range many).map bI):=by simp [da,strs]
 have Jw:=h.2.1;have dX:=h.1
 have hj := Ra ((List.range many).map bI) (by
   intro y hy
   rw [iz] at hy
   obtain ⟨x, hx, rfl⟩ := hy
   simp [bI])
 rw [cf,UP] at hj;refine tf (af5 _ (nX (Yp sD (m+1) (by omega) b2 b h) (bU rfl (jr (by first | omega | (simp;omega)) (jr (by first | omega | (simp;omega)) ?_))))) hK;rw [hr];refine WY (by omega) b2 ?_ ?_ (by simp;omega) ?_ (jr ?_ (jr ?_ (W8 (by omega) ?_ ?_ fun _=>dD rfl ?_)))
 ·intro e;rw [List.map_eq_nil_iff,List.range_eq_nil] at e;omega
 ·intro y hy;rw [iz] at hy;obtain ⟨x,hx,rfl⟩:=hy;simp [bI]
 ·intro y hy;rw [iz] at hy;obtain ⟨x,hx,rfl⟩:=hy;simp [bI]
 ·simp;omega
 ·simp;omega
 ·simp
 ·simp;omega
 ·have:=acb (m:=m+1) m (by omega) b (P:=l.length) (many:=many) (by have:=h.2.2.2.1;omega) (l:=l) (by have:=h.2.2.2.1;omega) h.2.2.2.2 (m+1) 0
   ([112,114,111,116,111,99,111,108,32]++nm++[32,114,111,108,101,115,32]++iJ ((List.range many).map bI)++[32,123,10]) (by have:=h.2.2.2.1;omega) (by omega) (by simp) (by simp;omega)
  rw [AW] at this;exact this
theorem adM {P i:Nat} {p:TN} (h:De P p):(pN i p).length≤80:=by
 rcases h with ⟨p1,p2,p3⟩ | ⟨p1,⟨k,p2,p3⟩,p4⟩
 ·simp [pN,p3,dg]
 ·have:=Ei p4;have h1:p.pr.length=1:=by rw [p3];rfl
  have h3:p.ms≠[]:=by
   intro e;have:=p4.1;rw [e] at this;simp at this
  simp only [pN,h3,dE,ew,gp,jD,OJ];split<;>simp only [ew,gp,jD]<;>omega
theorem adN (q:Nat) (hm:110≤m) (b:Bool) {P:Nat} (hP:P≤10) {l:List TN} (hl:l.length≤10) (aS:∀p∈l,De P p):∀(k i:Nat) (t:BB),l.length - i < k→i≤l.length→t≠[]→t.length≤100+80 * i→
  mo (T m) (q+1) k (BW t) b (l.map cN) (ae (l.map cN).length) (i:Int)=some (.one (sC (t++wB i (l.drop i))),[])
 | 0,i,t,h,_,_,_=>by omega
 | k+1,i,t,h,hi,ht,sI=>by
  rw [aku];by_cases af:i < l.length
  ·have hg:l[i]? = some l[i]:=gE af;have hd:l.drop i=l[i]::l.drop (i+1):=tA af;have hp:=aS l[i] (bL af);have cr:=adM (i:=i) hp;have ih:=adN q hm b hP hl aS k (i+1) (t++pN i l[i]) (by omega) (by omega) (by simp [ht]) (by simp only [ew];omega);have hw:=wI i;rw [eo] at ih;refine dD (bf (by rw [bJ,cf];omega)) (iI (v:=(l[i].kd,l[i].pr,(l[i].t,l[i].ms.map cM),())) rfl (Ym hg) (by simp [cN]) (by simp [cN,dS,ko]) ?_);dsimp only;refine Iy (by omega) (by omega) (ei (bf (by simp [dg])) (jr (by simp [dg]) (qS (by omega) (by simp [dg];omega) fun _=>dD rfl ?_)));dsimp only;rw [hw,hd,show wB i (l[i]::l.drop (i+1))=pN i l[i]++wB (i+1) (l.drop (i+1)) from rfl];rcases hp with ⟨p1,p2,p3⟩ | ⟨p1,⟨k1,p2,p3⟩,p4⟩
   ·rw [show pN i l[i]=([32,32]++dg i++[58,32])++[101,110,100,10] by simp only [pN,p3,bV]] at ih ⊢;rw [←eo t] at ih;refine dD (by rw [p1];rfl) (qS (by omega) (by simp [dg];omega) fun _=>dD rfl ?_);exact ih
   ·have h3:l[i].ms≠[]:=by
     intro e;have:=p4.1;rw [e] at this;simp at this
    have vk:=Ei p4;have h1:l[i].pr.length=1:=by rw [p3];rfl
    rcases p1 with p1 | p1
    ·rw [show pN i l[i]=([32,32]++dg i++[58,32])++([116,111,32]++l[i].pr++nE l[i].ms++[10]) by simp only [pN,h3,dE,p1,bV]] at ih ⊢;rw [←eo t] at ih;refine bU (by rw [p1];rfl) (dD (by rw [p1];rfl) (jr (by omega) (OA (by omega) _ hP p4 (jr (by simp;omega) (jr (by simp;omega) (qS (by omega) (by simp [dg];omega) fun _=>dD rfl ?_))))));exact ih
    ·rw [show pN i l[i]=([32,32]++dg i++[58,32])++([102,114,111,109,32]++l[i].pr++nE l[i].ms++[10]) by simp [pN,h3,p1]] at ih ⊢;rw [←eo t] at ih;refine bU (by rw [p1];rfl) (bU (by rw [p1];rfl) (dD (by rw [p1];rfl) (jr (by omega) (OA (by omega) _ hP p4 (jr (by simp;omega) (jr (by simp;omega) (qS (by omega) (by simp [dg];omega) fun _=>dD rfl ?_)))))));exact ih
  ·obtain rfl:i=l.length:=by omega
   rw [List.drop_length];refine bU (cg (by rw [bJ,cf];omega)) (qS (by omega) (by simp;omega) fun _=>dD rfl ?_);exact OB (by omega) (by simp) (by simp;omega) rfl
theorem afB (hm:130≤m) (b:Bool) {l:List TN} (h:Dc l) {K:BB×Unit→OR} (hK:K (xO l,())=z):c21 (T m) [122,122] b (l.map cN) K=z:=by
 obtain ⟨m,rfl⟩:=bm 2 m;have hl:=h.2.1;refine tf (af4 _ (nX (ML (m+1) (by omega) b _ h.1 (by omega) fun p hp=>abl (h.2.2 p hp)) (bU rfl (nX (vP (m+1) (by omega) (by decide)) (bU rfl ?_))))) hK;rw [akv];refine jr (show (8:Nat)≤100000000000000 by decide) (jr (show (11:Nat)≤100000000000000 by decide) (W8 (by omega) (by simp) (by simp) fun _=>dD rfl ?_));have:=adN (m:=m+1) m (by omega) b (P:=l.length) (by omega) (l:=l) (by omega) h.2.2 (m+1) 0
  ([108,111,99,97,108,32]++[122,122]++[32,123,10]) (by omega) (by omega) (by simp) (by simp)
 rw [AW] at this;exact this
end
end
end Go.Proofs.YtfmpdgeiodnnfaaGreatDoor.QQ
namespace Go.Proofs.YtfmpdgeiodnnfaaGreatDoor
section
open Go Go.ax QQ
structure TM where
 kd:Int
 nm:BB
 n:Int
 tx:BB
 l:Int
 r:Int
def bz (t:TM):List D:=[.int .i64 t.kd,.str t.nm,.int .i64 t.n,.str t.tx,.int .i64 t.l,.int .i64 t.r]
structure SR where
 kd:Int
 nm:BB
 pr:BB
 lb:BB
 pc:BB
 tm:Int
 gt:Bool
 ag:RR
 ct:Bool
 cs:RR
 wt:Tag
 ws:RR
 nx:Int
def cS (s:SR):List D:=[.int .i64 s.kd,.str s.nm,.str s.pr,.str s.lb,.str s.pc,.int .i64 s.tm,.sl (.im s.gt) 1 s.ag,.sl (.im s.ct) 3 s.cs,.sl s.wt 3 s.ws,.int .i64 s.nx]
structure PR where
 nm:BB
 rt:Bool
 rs:List BB
 pt:Bool
 gR:RR
def cZ (p:PR):List D:=[.str p.nm,.sl (.im p.rt) 1 (p.rs.map fun s=>[.str s]),.sl (.im p.pt) 3 p.gR]
theorem SW:∀a:PR,1+1≤(cZ a).length∧dS [DS.im 1] (List.take 1 (List.drop 1 (cZ a)))=some ((fun p=>((p.rt,p.rs.map fun s=>[.str s]),())) a):=(fun a=>⟨by simp [cZ],rfl⟩)
theorem Av:∀a:PR,0+3≤(cZ a).length∧dS ec (List.take 3 (List.drop 0 (cZ a)))=some ((fun p=>(p.nm,(p.rt,p.rs.map fun s=>[.str s]),(p.pt,p.gR),())) a):=(fun a=>⟨by simp [cZ],rfl⟩)
structure LR where
 nm:BB
 tb:Bool
 ts:List TN
def mN (l:LR):List D:=[.str l.nm,.sl (.im l.tb) 3 (l.ts.map cN)]
theorem aco:∀a:LR,0+1≤(mN a).length∧dS [DS.str] (List.take 1 (List.drop 0 (mN a)))=some ((fun l=>(l.nm,())) a):=(fun a=>⟨by simp [mN],rfl⟩)
theorem SX:∀a:LR,1+1≤(mN a).length∧dS [DS.im 3] (List.take 1 (List.drop 1 (mN a)))=some ((fun l=>((l.tb,l.ts.map cN),())) a):=(fun a=>⟨by simp [mN],rfl⟩)
structure WK where
 pb:Bool
 ps:List PR
 nm:BB
 pm:Tag×RR
 self:BB
 yb:Bool
 ty:List LR
 role:Int
def Wr (k:WK) (tt:Tag) (tm:RR) (st:Tag) (ss:RR) (nz rm:Int):au aQ:=((),(k.pb,k.ps.map cZ),k.nm,k.pm,(tt,tm),(st,ss),k.self,(k.yb,k.ty.map mN),k.role,nz,rm,())
def W (k:WK) (tt:Tag) (tm:List TM) (st:Tag) (ss:List SR) (nz rm:Int):au aQ:=((),(k.pb,k.ps.map cZ),k.nm,k.pm,(tt,tm.map bz),(st,ss.map cS),k.self,(k.yb,k.ty.map mN),k.role,nz,rm,())
def Wt (k:WK) (tm:List TM) (st:Tag) (ss:List SR) (nz rm:Int):au ac9:=((),(k.pb,k.ps.map cZ),k.nm,k.pm,tm.map bz,(st,ss.map cS),k.self,(k.yb,k.ty.map mN),k.role,nz,rm,())
def Ws (k:WK) (tt:Tag) (tm:List TM) (ss:List SR) (nz rm:Int):au ac':=((),(k.pb,k.ps.map cZ),k.nm,k.pm,(tt,tm.map bz),ss.map cS,k.self,(k.yb,k.ty.map mN),k.role,nz,rm,())
def qL {X:Type} (t:Tag) (l:List X):Prop:=t = .own∨(t = .im true∧l=[])
theorem bH {rs:RS} {o x:OR} {K:rs.T→OR} {Q:V→List (List C)→Prop} (f:∀r,x=some r→o=some r) (h:Wp x (J rs K Q)):Wp (aG rs o K) Q:=by
 obtain ⟨v,bs,e,q⟩:=h;rw [f _ e];exact q
theorem aC {rs:RS} {v:V} {bs:List (List C)} {x:rs.T} {K:rs.T→OR} {Q:V→List (List C)→Prop} (hd:ik rs (v,bs)=some x) (h:Wp (K x) Q):Wp (aG rs (some (v,bs)) K) Q:=by
 have e:aG rs (some (v,bs)) K=K x:=by simp only [aG,hd]
 rw [e];exact h
theorem kB {rs:RS} {o:OR} {v:V} {bs:List (List C)} {x:rs.T} {K:rs.T→OR} {Q:V→List (List C)→Prop} (ho:o=some (v,bs)) (hd:ik rs (v,bs)=some x) (h:Wp (K x) Q):Wp (aG rs o K) Q:=by
 rw [ho];exact aC hd h
section
variable {m:Nat} {Q:V→List (List C)→Prop} {k:WK} {tt st:Tag} {tm:List TM} {ss:List SR} {nz rm:Int} {d:au ao}
theorem hC {n k:Nat} (h:n≤100000000000) (hk:k≤1000):(n==n&&true&&decide ((n+1) * k≤140737488355328))=true:=by
 have:(n+1) * k≤(100000000000+1) * 1000:=UZ (by omega) hk;simp;omega
theorem jS (hm:4≤m) {n:Nat} (h1:1≤n) (h2:n≤1000000) (hd:cT d) {K:acL.T→OR} (h:∀(j:Nat) d',j < n→cT d'→Wp (K ((j:Int),d',())) Q):Wp (eh (T m) (n:Int) d K) Q:=by
 obtain ⟨j,d',hj,dz,e⟩:=pick m (by omega) h1 h2 hd;exact kB e (by simp only [ik,pj,u7,IK];rfl) (h j d' hj dz)
theorem mG (hm:1≤m) {z:Int} {K:Ha.T→OR} (h:Wp (K ((z,[],[],[],[],-1,(true,[]),(true,[]),(true,[]),-1,()),())) Q):Wp (ki (T m) z K) Q:=by
 obtain ⟨m,rfl⟩:=cG hm;exact bH agr (aA (aC rfl h))
theorem AN (hm:4≤m) (hN:tm.length≤100000000) (ho:qL tt tm) {a:Int} {b:BB} {c:Int} {e:BB} {f g:Int} {K:pK.T→OR}
  (h:Wp (K ((tm.length:Int),Wt k (tm++[⟨a,b,c,e,f,g⟩]) st ss nz rm,d,())) Q):Wp (wX (T m) a b c e f g (W k tt tm st ss nz rm) d K) Q:=by
 obtain ⟨m,rfl⟩:=bm 2 m;have hw:ak (ae ((tm++[TM.mk a b c e f g]).map bz).length - 1)=(tm.length:Int):=fY (by rw [bJ];simp) (by omega);refine bH agJ ?_;have fin:Wp (Rn (T (m+1)) (m+1) (W k tt tm st ss nz rm) d (m+1) (W k .own (tm++[⟨a,b,c,e,f,g⟩]) st ss nz rm) d (a,b,c,e,f,g,())) (J pK K Q):=by
  rw [ak8];refine je (aA ?_);refine aC (x:=((tm.length:Int),Wt k (tm++[⟨a,b,c,e,f,g⟩]) st ss nz rm,d,())) ?_ h;show ik pK (.one (iC (ak (ae ((tm++[TM.mk a b c e f g]).map bz).length - 1))),_)=_;rw [hw];rfl
 rcases ho with rfl | ⟨rfl,rfl⟩
 ·refine je (aE (hC (by simp [W];omega) (by omega)) ?_);have e1:(W k .own (tm++[⟨a,b,c,e,f,g⟩]) st ss nz rm)=((),(W k .own tm st ss nz rm).2.1,(W k .own tm st ss nz rm).2.2.1,(W k .own tm st ss nz rm).2.2.2.1,(.own,(tm.map bz)++[[.int .i64 a,.str b,.int .i64 c,.str e,.int .i64 f,.int .i64 g]]),(W k .own tm st ss nz rm).2.2.2.2.2):=by simp [W,bz]
  rw [e1] at fin;exact fin
 ·exact eY (aE rfl fin)
theorem rM (hm:5≤m) (hN:tm.length≤100000000) (ho:qL tt tm) {b:BB} {K:pK.T→OR}
  (h:Wp (K ((tm.length:Int),Wt k (tm++[⟨0,b,0,[],-1,-1⟩]) st ss nz rm,d,())) Q):Wp (c87 (T m) b (W k tt tm st ss nz rm) d K) Q:=by
 obtain ⟨m,rfl⟩:=cG hm;refine bH agB (AN (by omega) hN ho (aA ?_));exact aC (x:=((tm.length:Int),Wt k (tm++[⟨0,b,0,[],-1,-1⟩]) st ss nz rm,d,())) rfl h
theorem w_num (hm:5≤m) (hN:tm.length≤100000000) (ho:qL tt tm) {b:Int} {K:pK.T→OR}
  (h:Wp (K ((tm.length:Int),Wt k (tm++[⟨1,[],b,[],-1,-1⟩]) st ss nz rm,d,())) Q):Wp (ph (T m) b (W k tt tm st ss nz rm) d K) Q:=by
 obtain ⟨m,rfl⟩:=cG hm;refine bH agC (AN (by omega) hN ho (aA ?_));exact aC (x:=((tm.length:Int),Wt k (tm++[⟨1,[],b,[],-1,-1⟩]) st ss nz rm,d,())) rfl h
theorem yz (hm:5≤m) (hN:tm.length≤100000000) (ho:qL tt tm) {a b c:Int} {K:pK.T→OR}
  (h:Wp (K ((tm.length:Int),Wt k (tm++[⟨a,[],0,[],b,c⟩]) st ss nz rm,d,())) Q):Wp (r8 (T m) a b c (W k tt tm st ss nz rm) d K) Q:=by
 obtain ⟨m,rfl⟩:=cG hm;refine bH agt (AN (by omega) hN ho (aA ?_));exact aC (x:=((tm.length:Int),Wt k (tm++[⟨a,[],0,[],b,c⟩]) st ss nz rm,d,())) rfl h
theorem wF (hm:4≤m) (hN:ss.length≤100000000) (ho:qL st ss) (jZ : -100000000≤rm) (sH:rm≤100000000) {x0:Int} {x1 x2 x3 x4:BB} {x5:Int} {x6:Bool} {x7:RR} {x8:Bool} {x9:RR} {cA:Bool} {bN:RR} {ef:Int} {K:Ay.T→OR}
  (h:Wp (K ((ss.length:Int),Ws k tt tm (ss++[⟨x0,x1,x2,x3,x4,x5,x6,x7,x8,x9,.im cA,bN,-1⟩]) nz (rm - 1),d,())) Q):Wp (qP (T m) x0 x1 x2 x3 x4 x5 x6 x7 x8 x9 cA bN ef (W k tt tm st ss nz rm) d K) Q:=by
 obtain ⟨m,rfl⟩:=bm 2 m;have hw:ak (ae ((ss++[SR.mk x0 x1 x2 x3 x4 x5 x6 x7 x8 x9 (.im cA) bN (-1)]).map cS).length - 1)=(ss.length:Int):=fY (by rw [bJ];simp) (by omega);have ml:ak (rm - 1)=rm - 1:=DQ (by omega) (by omega);refine bH agI ?_;have fin:Wp (Rm (T (m+1)) (m+1) (W k tt tm st ss nz rm) d (m+1) (W k tt tm .own (ss++[⟨x0,x1,x2,x3,x4,x5,x6,x7,x8,x9,.im cA,bN,-1⟩]) nz rm) d (x0,x1,x2,x3,x4,x5,(.im x6,x7),(.im x8,x9),(.im cA,bN),-1,())) (J Ay K Q):=by
  rw [ak7];refine je (aA ?_);refine aC (x:=((ss.length:Int),Ws k tt tm (ss++[⟨x0,x1,x2,x3,x4,x5,x6,x7,x8,x9,.im cA,bN,-1⟩]) nz (rm - 1),d,())) ?_ h;show ik Ay (.one (iC (ak (ae ((ss++[SR.mk x0 x1 x2 x3 x4 x5 x6 x7 x8 x9 (.im cA) bN (-1)]).map cS).length - 1))),[bx aQ (W k tt tm .own _ nz (ak (rm - 1))),_])=_;rw [hw,ml];rfl
 rcases ho with rfl | ⟨rfl,rfl⟩
 ·refine je (aE (hC (by simp [W];omega) (by omega)) ?_);have e1:(W k tt tm .own (ss++[⟨x0,x1,x2,x3,x4,x5,x6,x7,x8,x9,.im cA,bN,-1⟩]) nz rm)=((),(W k tt tm .own ss nz rm).2.1,(W k tt tm .own ss nz rm).2.2.1,(W k tt tm .own ss nz rm).2.2.2.1,(W k tt tm .own ss nz rm).2.2.2.2.1,(.own,(ss.map cS)++[[.int .i64 x0,.str x1,.str x2,.str x3,.str x4,.int .i64 x5,.sl (.im x6) 1 x7,.sl (.im x8) 3 x9,.sl (.im cA) 3 bN,.int .i64 (-1)]]),(W k tt tm .own ss nz rm).2.2.2.2.2.2):=by simp [W,cS]
  rw [e1] at fin;exact fin
 ·exact eY (aE rfl fin)
theorem apd {l:List SR} {a b:SR} {c:Nat} {z:D} (h:(cS a).set c z=cS b):bX ((l++[a]).map cS) (0+l.length) c z=(l++[b]).map cS:=by
 have:((l++[a]).map cS).getD (0+l.length) []=cS a:=by simp
 unfold bX;rw [this,h];simp
theorem uK (hm:5≤m) (hN:ss.length≤100000000) (ho:qL st ss) (jZ : -100000000≤rm) (sH:rm≤100000000) {x0:Int} {x1 x2 x3 x4:BB} {x5:Int} {x6:Bool} {x7:RR} {x8:Bool} {x9:RR} {cA:Bool} {bN:RR} {ef:Int} {K:Ay.T→OR}
  (h:Wp (K ((ss.length:Int),Ws k tt tm (ss++[⟨x0,x1,x2,x3,x4,x5,x6,x7,x8,x9,.im cA,bN,(ss.length+1:Nat)⟩]) nz (rm - 1),d,())) Q):Wp (qQ (T m) x0 x1 x2 x3 x4 x5 x6 x7 x8 x9 cA bN ef (W k tt tm st ss nz rm) d K) Q:=by
 obtain ⟨m,rfl⟩:=cG hm;refine bH agK (wF (by omega) hN ho jZ sH ?_);refine jd rfl (aE (bf ?_) (fU (b:=cS ⟨x0,x1,x2,x3,x4,x5,x6,x7,x8,x9,.im cA,bN,-1⟩) ?_ (aE rfl (iO (v:=(-1,())) rfl ?_))))
 ·show ss.length < ((ss++[SR.mk x0 x1 x2 x3 x4 x5 x6 x7 x8 x9 (.im cA) bN (-1)]).map cS).length;simp
 ·show ((ss++[SR.mk x0 x1 x2 x3 x4 x5 x6 x7 x8 x9 (.im cA) bN (-1)]).map cS)[0+ss.length]? = _;simp
 ·refine aA (aC (x:=((ss.length:Int),Ws k tt tm (ss++[⟨x0,x1,x2,x3,x4,x5,x6,x7,x8,x9,.im cA,bN,(ss.length+1:Nat)⟩]) nz (rm - 1),d,())) ?_ h);have e:bX ((ss++[SR.mk x0 x1 x2 x3 x4 x5 x6 x7 x8 x9 (.im cA) bN (-1)]).map cS) (0+ss.length) 9 (.int .i64 (ae ((ss++[SR.mk x0 x1 x2 x3 x4 x5 x6 x7 x8 x9 (.im cA) bN (-1)]).map cS).length))=(ss++[SR.mk x0 x1 x2 x3 x4 x5 x6 x7 x8 x9 (.im cA) bN ((ss.length+1:Nat):Int)]).map cS:=by
   refine apd ?_;rw [bJ];simp [cS]
  show ik Ay (.one (iC (ss.length:Int)),[bx aQ (Wr k tt (tm.map bz) .own (bX ((ss++[SR.mk x0 x1 x2 x3 x4 x5 x6 x7 x8 x9 (.im cA) bN (-1)]).map cS) (0+ss.length) 9 (.int .i64 (ae ((ss++[SR.mk x0 x1 x2 x3 x4 x5 x6 x7 x8 x9 (.im cA) bN (-1)]).map cS).length))) nz (rm - 1)),bx ao d])=_;rw [e];rfl
end
end
section
open Go Go.ax QQ
def yj (z:Int):Bool:=decide (-9223372036854775808≤z)&&decide (z≤9223372036854775807)
theorem aoV:yj 0=true:=by decide
theorem aoW {z:Int} (h : -1000000≤z) (h':z≤1000000):yj z=true:=by simp [yj];omega
theorem aoX (z:Int):yj (ak z)=true:=by
 show (decide (_≤IntKind.wrap .i64 z)&&decide (IntKind.wrap .i64 z≤_))=true;simp only [IntKind.wrap,IntKind.signed,IntKind.bits];simp;omega
def xL (t:TM):Prop:=(t.kd=0∨t.kd=1∨t.kd=3∨t.kd=4)∧t.l = -1∧t.r = -1∧yj t.n=true
def LY (tm:List TM) (i:Nat) (t:TM):Prop:=xL t∨(t.n=0∧(t.kd=6∨t.kd=7∨t.kd=9∨t.kd=12∨t.kd=18∨t.kd=19)∧∃a b x y,t.l=((a:Nat):Int)∧t.r=((b:Nat):Int)∧a≠b∧a < i∧b < i∧tm[a]? = some x∧tm[b]? = some y∧xL x∧xL y∧(x.kd≠0∨y.kd≠0))
def jk (tm:List TM):Prop:=∀i t,tm[i]? = some t→LY tm i t
theorem jb {z:Int} (h:yj z=true:=by first | exact aoV | exact aoX _ | (refine aoW ?_ ?_<;>(dsimp only;omega))):yj z=true:=h
theorem Pp {X:Type} {l:List X} {a:Nat} {x y:X} (h:l[a]? = some x):(l++[y])[a]? = some x:=by
 rw [od];exact h;exact (cB.1 h).1
theorem abp {tm:List TM} {i:Nat} {t u:TM} (h:LY tm i t):LY (tm++[u]) i t:=by
 rcases h with h | ⟨hz,hk,a,b,x,y,h1,h2,h3,h4,h5,h6,h7,h8⟩
 ·exact .inl h
 ·exact .inr ⟨hz,hk,a,b,x,y,h1,h2,h3,h4,h5,Pp h6,Pp h7,h8⟩
theorem abq {tm:List TM} {u:TM} (h:jk tm) (hu:LY tm tm.length u):jk (tm++[u]):=by
 intro i t ht;by_cases hi:i < tm.length
 ·rw [od hi] at ht;exact abp (h i t ht)
 ·rw [qI (by omega)] at ht;have:i - tm.length=0:=by
   by_cases h0:i - tm.length=0
   ·exact h0
   ·rw [pR (by simp;omega)] at ht;cases ht
  rw [this] at ht;simp at ht;subst ht;rw [show i=tm.length by omega];exact abp hu
theorem qt {tm:List TM} {u:TM} (h:jk tm) (hu:xL u):jk (tm++[u]):=abq h (.inl hu)
theorem xY {tm:List TM} {x y:TM} {c:Int} (h:jk tm) (hx:xL x) (hy:xL y) (hk:c=6∨c=7∨c=9∨c=12∨c=18∨c=19) (hv:x.kd≠0∨y.kd≠0):jk (tm++[x]++[y]++[⟨c,[],0,[],(tm.length:Int),((tm++[x]).length:Int)⟩]):=by
 refine abq (qt (qt h hx) hy) (.inr ⟨rfl,hk,tm.length,(tm++[x]).length,x,y,rfl,rfl,by simp,by simp,by simp,?_,?_,hx,hy,hv⟩)
 ·exact Pp (by simp)
 ·simp
section
variable {m:Nat} {Q:V→List (List C)→Prop} {k:WK} {tt st:Tag} {tm:List TM} {ss:List SR} {nz rm:Int} {d:au ao}
def D6 (r:RR) (b:BB):Prop:=r.length=b.length∧kA r=some b∧aW r=r∧sj r=true
theorem D6.cons {r:RR} {b:BB} (h:D6 r b) (z:Int):∃c,D6 ([[D.int .u8 0]].set 0 [D.int .u8 z]++r) (c::b):=by
 obtain ⟨h1,h2,h3,h4⟩:=h;refine ⟨UInt8.ofNat z.toNat,?_,?_,?_,?_⟩
 ·simp [h1]
 ·show (kA r).map _=_;rw [h2];rfl
 ·show Dk _::aW r=_;rw [h3];rfl
 ·show sj ([D.int .u8 z]::r)=true;simp only [sj,List.all_cons] at h4 ⊢;rw [h4];simp [D.flat]
theorem Xj (q:Nat) (hq:30≤q) (z:Nat):∀(c j u:Nat) (r:RR) (b:BB),c < j→c≤18→u < 10 ^ c→D6 r b→b≠[]→b.length+c≤100→
  (∀s:BB,1≤s.length→s.length≤b.length+c→Q (.one (sC s)) [])→Wp (Kl (T q) q j (z:Int) (u:Int) r) Q
 | c,0,u,r,b,h0,_,_,_,_,_,_=>by omega
 | c,j+1,u,r,b,h0,zm,hu,hb,aB,hl,h=>by
  obtain ⟨q,rfl⟩:=bm 1 q;have hz:decide ((z:Int) < 0)=false:=cg (by omega);refine aD (alb) ?_;have Qo:1≤b.length:=by cases b with | nil=>exact absurd rfl aB | cons=>simp
  by_cases h1:u=0
  ·subst h1;refine eH rfl (eH (rR.2 (by rw [bJ,hb.1];omega)) ?_);refine aD alf ?_;refine eH hz (aE (by simp) ?_);rw [dr,hb.2.2.1];exact fU hb.2.1 (aA (h b Qo (by omega)))
  ·match c,hu with
   | 0,hu=>simp at hu;omega
   | c+1,hu=>
    have e1:(iP ((u:Int).tdiv 10))=((u / 10:Nat):Int):=by
     have h9:(10:Nat) ^ (c+1)≤10 ^ 18:=Nat.pow_le_pow_right (by omega) zm;have h8:(u:Int).tdiv 10=((u / 10:Nat):Int):=by rw [M8 (by omega)];omega
     rw [h8];show IntKind.wrap .u64 _=_;simp only [IntKind.wrap,IntKind.signed,IntKind.bits];simp;omega
    refine gM (bf (by omega)) (aD ald (aE (by rw [dr,hb.2.2.2];simp) (aE ?_ ?_)))
    ·rw [dr,MS];simp;have:=hb.1;omega
    ·rw [dr,e1];obtain ⟨x,hx⟩:=hb.cons (w8 (iP (48+(u:Int).tmod 10)));exact Xj (q+1) hq z c j (u / 10) _ _ (by omega) (by omega) (by rw [U0] at hu;omega) hx (by simp) (by simp;omega) (fun s g1 g2=>h s g1 (by simp at g2;omega))
theorem afe:D6 [] []:=⟨rfl,rfl,rfl,rfl⟩
theorem aea (hm:60≤m) {z:Nat} (hz:z < 10 ^ 17) {K:ft.T→OR} (h:∀s:BB,1≤s.length→s.length≤20→Wp (K (s,())) Q):Wp (Ip (T m) (z:Int) K) Q:=by
 obtain ⟨q,rfl⟩:=bm 2 m;have hu:iP (z:Int)=(z:Int):=by
  show IntKind.wrap .u64 _=_;simp only [IntKind.wrap,IntKind.signed,IntKind.bits];simp;omega
 refine bH agN (eH (cg (by omega)) ?_);rw [hu];refine aD alg (aD ala ?_);have fin:Wp (Km (T (q+1)) (q+1) q (q+1) (z:Int) (z:Int) true []) (J ft K Q):=by
  refine aD alc (aE (by rw [MS];rfl) ?_);obtain ⟨x,hx⟩:=afe.cons (w8 (iP (48+(z:Int).tmod 10)));have e1:iP ((z:Int).tdiv 10)=((z / 10:Nat):Int):=by
   have h8:(z:Int).tdiv 10=((z / 10:Nat):Int):=by rw [M8 (by omega)];omega
   rw [h8];show IntKind.wrap .u64 _=_;simp only [IntKind.wrap,IntKind.signed,IntKind.bits];simp;omega
  rw [e1];exact Xj (q+1) (by omega) z 17 q (z / 10) _ _ (by omega) (by omega) (by omega) hx (by simp) (by simp) (fun s h1 h2=>aC (x:=(s,())) rfl (h s h1 (by simp at h2;omega)))
 by_cases h0:(z:Int) > 0
 ·exact gM (bf h0) fin
 ·exact eH (cg h0) (gM rfl fin)
theorem aed (hm:70≤m) {z:Nat} (hz:z≤100000000) {K:uB.T→OR} (h:∀s:BB,1≤s.length→s.length≤30→Wp (K (s,W k tt tm st ss ((z+1:Nat):Int) rm,d,())) Q):Wp (c146 (T m) (W k tt tm st ss (z:Int) rm) d K) Q:=by
 obtain ⟨m,rfl⟩:=cG hm;have hw:=wI z;refine bH agv ?_;show Wp (Ip (T m) (ak ((z:Int)+1)) _) _;rw [hw];refine aea (by omega) (by omega) fun s h1 h2=>cz (by show 1+s.length≤_;omega) (aA (aC (x:=([118]++s,W k tt tm st ss ((z+1:Nat):Int) rm,d,())) ?_ (h _ (by simp) (by simp;omega))))
 show ik uB (.one (sC ([118]++s)),[bx aQ (W k tt tm st ss (ak ((z:Int)+1)) rm),bx ao d])=_;rw [hw];rfl
theorem aqA (hm:10≤m) (hN:tm.length≤90000000) (ho:qL tt tm) (hT:jk tm) {K:pK.T→OR}
  (h:∀(z:Int) (dB:List TM),jk dB→dB.length=tm.length+3→Wp (K (z,Wt k dB st ss nz rm,d,())) Q):Wp (c196 (T m) (W k tt tm st ss nz rm) d K) Q:=by
 obtain ⟨m,rfl⟩:=cG hm;refine bH agz (rM (by omega) (by omega) ho ?_);refine w_num (m:=m) (k:=k) (tm:=tm++[⟨0,[110],0,[],-1,-1⟩]) (by omega) (by simp;omega) (.inl rfl) ?_;refine yz (m:=m) (k:=k) (by omega) (by simp;omega) (.inl rfl) (aA ?_);exact aC rfl (h _ _ (xY hT ⟨.inl rfl,rfl,rfl,jb⟩ ⟨.inr (.inl rfl),rfl,rfl,jb⟩ (.inr (.inl rfl)) (.inr (by decide))) (by simp))
end
end
section
open Go Go.ax QQ
structure CR where
 ro:BB
 pc:BB
 gt:Bool
 ag:List Int
def eC (c:CR):List D:=[.str c.ro,.str c.pc,.sl (.im c.gt) 1 (c.ag.map bF)]
structure WR where
 lb:BB
 nm:BB
 nx:Int
def cW (w:WR):List D:=[.str w.lb,.str w.nm,.int .i64 w.nx]
theorem Au:∀a:WR,0+3≤(cW a).length∧dS uF (List.take 3 (List.drop 0 (cW a)))=some ((fun w=>(w.lb,w.nm,w.nx,())) a):=(fun a=>⟨by simp [cW],rfl⟩)
def nQ (s:SR):Prop:=(∃l:List Int,s.ag=l.map bF∧l.length≤100)∧(∃l:List CR,s.cs=l.map eC∧l.length≤100∧∀c∈l,c.ag.length≤100)∧(∃l:List WR,s.ws=l.map cW∧l.length≤100)∧qL s.wt s.ws
structure WH (N:Nat) (tt:Tag) (tm:List TM) (st:Tag) (ss:List SR) (nz rm:Int):Prop where
 ot:qL tt tm
 os:qL st ss
 nt:tm.length≤N
 ns:ss.length≤N
 kT:jk tm
 kS:∀s∈ss,nQ s
 n0:∃z:Nat,nz=(z:Int)∧z≤N
 r1 : -(N:Int)≤rm
 r2:rm≤20
 te:tt = .own→tm≠[]
 se:st = .own→ss≠[]
section
variable {m N:Nat} {Q:V→List (List C)→Prop} {k:WK} {tt st:Tag} {tm:List TM} {ss:List SR} {nz rm:Int} {d:au ao}
theorem WH.le {M:Nat} (h:WH N tt tm st ss nz rm) (hm:N≤M):WH M tt tm st ss nz rm:=by
 obtain ⟨z,hz,JP⟩:=h.n0;exact ⟨h.ot,h.os,by have:=h.nt;omega,by have:=h.ns;omega,h.kT,h.kS,⟨z,hz,by omega⟩,by have:=h.r1;omega,h.r2,h.te,h.se⟩
theorem WH.terms {dB:List TM} (h:WH N tt tm st ss nz rm) {M:Nat} (hm:N≤M) (h1:dB.length≤M) (h2:jk dB) (h3:dB≠[]:=by simp):WH M .own dB st ss nz rm:=by
 obtain ⟨z,hz,JP⟩:=h.n0;exact ⟨.inl rfl,h.os,h1,by have:=h.ns;omega,h2,h.kS,⟨z,hz,by omega⟩,by have:=h.r1;omega,h.r2,fun _=>h3,h.se⟩
theorem WH.step {s:SR} (h:WH N tt tm st ss nz rm) (hs:nQ s):WH (N+1) tt tm .own (ss++[s]) nz (rm - 1):=by
 obtain ⟨z,hz,JP⟩:=h.n0;refine ⟨h.ot,.inl rfl,by have:=h.nt;omega,by have:=h.ns;simp;omega,h.kT,?_,⟨z,hz,by omega⟩,by have:=h.r1;omega,by have:=h.r2;omega,h.te,fun _=>by simp⟩;intro x hx;rw [dC] at hx;rcases hx with hx | hx
 ·exact h.kS x hx
 ·simp at hx;subst hx;exact hs
theorem WH.fresh {z:Nat} (h:WH N tt tm st ss (z:Int) rm):WH (N+1) tt tm st ss ((z+1:Nat):Int) rm:=by
 obtain ⟨y,hy,xy⟩:=h.n0;exact ⟨h.ot,h.os,by have:=h.nt;omega,by have:=h.ns;omega,h.kT,h.kS,⟨z+1,rfl,by omega⟩,by have:=h.r1;omega,h.r2,h.te,h.se⟩
theorem nR {a:Int} {b c d e:BB} {f g:Int}:nQ ⟨a,b,c,d,e,f,true,[],true,[],.im true,[],g⟩:=
 ⟨⟨[],rfl,by simp⟩,⟨[],rfl,by simp,by simp⟩,⟨[],rfl,by simp⟩,.inr ⟨rfl,rfl⟩⟩
theorem aqw (hm:100≤m) (hN:N≤80000000) (H:WH N tt tm st ss nz rm) (hd:cT d) {kd:Int} {K:pK.T→OR}
  (h:∀(z:Int) (dB:List TM) d',jk dB→dB.length≤tm.length+3→dB≠[]→cT d'→Wp (K (z,Wt k dB st ss nz rm,d',())) Q):Wp (Wj (T m) kd (W k tt tm st ss nz rm) d K) Q:=by
 obtain ⟨m,rfl⟩:=cG hm;have hl:=H.nt;have hT:=H.kT;refine bH agw (ai (fun h1=>?_) (fun h1=>ai (fun h2=>?_) (fun h2=>ai (fun h3=>?_) (fun h3=>?_))))
 ·refine jS (m:=m) (n:=5) (by omega) (by omega) (by omega) hd fun j d1 hj cL=>?_
  refine ai (fun h5=>?_) (fun h5=>ai (fun h6=>?_) (fun h6=>?_))
  ·refine w_num (m:=m) (k:=k) (by omega) (by omega) H.ot ?_;refine rM (m:=m) (k:=k) (by omega) (by simp;omega) (.inl rfl) ?_;refine yz (m:=m) (k:=k) (by omega) (by simp;omega) (.inl rfl) (aA ?_);exact aC rfl (h _ _ _ (xY hT ⟨.inr (.inl rfl),rfl,rfl,jb⟩ ⟨.inl rfl,rfl,rfl,jb⟩ (.inr (.inr (.inl rfl))) (.inl (by decide))) (by simp) (by simp) cL)
  ·refine jS (m:=m) (n:=9) (by omega) (by omega) (by omega) cL fun j2 d2 lr fh=>?_
   refine w_num (m:=m) (k:=k) (by omega) (by omega) H.ot (aA ?_);exact aC rfl (h _ _ _ (qt hT ⟨.inr (.inl rfl),rfl,rfl,jb⟩) (by simp) (by simp) fh)
  ·refine rM (m:=m) (k:=k) (by omega) (by omega) H.ot ?_;refine jS (m:=m) (n:=5) (by omega) (by omega) (by omega) cL fun j2 d2 lr fh=>?_
   refine w_num (m:=m) (k:=k) (by omega) (by simp;omega) (.inl rfl) ?_;refine yz (m:=m) (k:=k) (by omega) (by simp;omega) (.inl rfl) (aA ?_);exact aC rfl (h _ _ _ (xY hT ⟨.inl rfl,rfl,rfl,jb⟩ ⟨.inr (.inl rfl),rfl,rfl,jb⟩ (.inl rfl) (.inr (show (1:Int)≠0 by decide))) (by simp) (by simp) fh)
 ·refine rM (m:=m) (k:=k) (by omega) (by omega) H.ot ?_;refine jS (m:=m) (n:=4) (by omega) (by omega) (by omega) hd fun j2 d2 lr fh=>?_
  refine w_num (m:=m) (k:=k) (by omega) (by simp;omega) (.inl rfl) ?_;refine yz (m:=m) (k:=k) (by omega) (by simp;omega) (.inl rfl) (aA ?_);exact aC rfl (h _ _ _ (xY hT ⟨.inl rfl,rfl,rfl,jb⟩ ⟨.inr (.inl rfl),rfl,rfl,jb⟩ (.inr (.inr (.inr (.inl rfl)))) (.inr (show (1:Int)≠0 by decide))) (by simp) (by simp) fh)
 ·refine jS (m:=m) (n:=9) (by omega) (by omega) (by omega) hd fun j2 d2 lr fh=>?_
  refine aea (m:=m) (by omega) (by omega) fun s g1 g2=>cz (by show 1+s.length≤_;omega) ?_
  refine AN (m:=m) (k:=k) (by omega) (by omega) H.ot ?_;refine AN (m:=m) (k:=k) (by omega) (by simp;omega) (.inl rfl) ?_;refine yz (m:=m) (k:=k) (by omega) (by simp;omega) (.inl rfl) (aA ?_);exact aC rfl (h _ _ _ (xY hT ⟨.inr (.inr (.inl rfl)),rfl,rfl,jb⟩ ⟨.inr (.inr (.inl rfl)),rfl,rfl,jb⟩ (.inr (.inr (.inr (.inr (.inr rfl))))) (.inr (by decide))) (by simp) (by simp) fh)
 ·refine AN (m:=m) (k:=k) (by omega) (by omega) H.ot ?_;refine rM (m:=m) (k:=k) (by omega) (by simp;omega) (.inl rfl) ?_;refine yz (m:=m) (k:=k) (by omega) (by simp;omega) (.inl rfl) (aA ?_);exact aC rfl (h _ _ _ (xY hT ⟨.inr (.inr (.inr rfl)),rfl,rfl,jb⟩ ⟨.inl rfl,rfl,rfl,jb⟩ (.inr (.inr (.inr (.inr (.inl rfl))))) (.inl (by decide))) (by simp) (by simp) hd)
theorem MZ (hm:100≤m) (hN:N≤80000000) (H:WH N tt tm st ss nz rm) {over:Bool} {K:uC.T→OR}
  (h:∀ss' gT,WH (N+2) tt tm .own ss' nz gT→(∃x,ss'=ss++x∧1≤x.length)→Wp (K ((ss.length:Int),W k tt tm .own ss' nz gT,d,())) Q):Wp (c141 (T m) over (W k tt tm st ss nz rm) d K) Q:=by
 obtain ⟨m,rfl⟩:=bm 2 m;have hl:=H.ns;have r1:=H.r1;have r2:=H.r2;have go:∀t,qL t ss→(t = .own→ss≠[])→Wp (bif (!over) then (ki (T (m+1)) 9 fun v3=>(qQ (T (m+1)) v3.1.1 [99] v3.1.2.2.1 v3.1.2.2.2.1 v3.1.2.2.2.2.1 v3.1.2.2.2.2.2.1 v3.1.2.2.2.2.2.2.1.1 v3.1.2.2.2.2.2.2.1.2 v3.1.2.2.2.2.2.2.2.1.1 v3.1.2.2.2.2.2.2.2.1.2 v3.1.2.2.2.2.2.2.2.2.1.1 v3.1.2.2.2.2.2.2.2.2.1.2 v3.1.2.2.2.2.2.2.2.2.2.1 (W k tt tm t ss nz rm) d fun v4=>(Rj (T (m+1)) (m+1) (W k tt tm st ss nz rm) d (m+1) ((),v4.2.1.2.1,v4.2.1.2.2.1,v4.2.1.2.2.2.1,v4.2.1.2.2.2.2.1,(.own,v4.2.1.2.2.2.2.2.1),v4.2.1.2.2.2.2.2.2) v4.2.2.1 (ae (ss.map cS).length) (v3.1.1,[99],v3.1.2.2)))) else (Rk (T (m+1)) (m+1) (W k tt tm st ss nz rm) d (m+1) (W k tt tm t ss nz rm) d (ae (ss.map cS).length))) (J uC K Q):=by
  intro t ht mj;have hn:ae (ss.map cS).length=(ss.length:Int):=by rw [bJ];simp
  rw [hn];have Ht:WH N tt tm t ss nz rm:=⟨H.ot,ht,H.nt,H.ns,H.kT,H.kS,H.n0,H.r1,H.r2,H.te,mj⟩
  refine ai (fun h1=>?_) (fun h1=>?_)
  ·refine mG (m:=m+1) (by omega) ?_;refine uK (m:=m+1) (k:=k) (by omega) (by omega) ht (by omega) (by omega) ?_;refine aD akU ?_;refine mG (m:=m+1) (by omega) ?_;refine wF (m:=m+1) (k:=k) (by omega) (by simp;omega) (.inl rfl) (by omega) (by omega) (aA ?_);exact aC rfl (h _ _ ((Ht.step nR).step nR) ⟨_,by rw [eo],by simp⟩)
  ·refine aD akV ?_;refine mG (m:=m+1) (by omega) ?_;refine wF (m:=m+1) (k:=k) (by omega) (by omega) ht (by omega) (by omega) (aA ?_);exact aC rfl (h _ _ ((Ht.step nR).le (by omega)) ⟨_,rfl,by simp⟩)
 refine bH agu ?_;have mj:=H.se;rcases H.os with rfl | ⟨rfl,rfl⟩
 ·exact je (go .own (.inl rfl) mj)
 ·exact eY (go (.im true) (.inr ⟨rfl,rfl⟩) (by intro h;cases h))
end
end
section
open Go Go.ax QQ
def uw (p:PR):Prop:=p.nm.length≤20∧1≤p.rs.length∧p.rs.length≤10∧∀s∈p.rs,s.length≤20
def GN (P:Nat) (t:TN):Prop:=(t.kd=0∧t.ms=[])∨((t.kd=1∨t.kd=2)∧1≤t.ms.length∧t.ms.length≤10∧∀a∈t.ms,a.nx < P)
structure KH (k:WK):Prop where
 p0:k.ps≠[]
 p1:k.ps.length≤10
 p2:∀p∈k.ps,uw p
 ro:∃(r:Nat) (L:LR),k.role=(r:Int)∧k.ty[r]? = some L∧1≤L.ts.length∧L.ts.length≤100∧∀t∈L.ts,GN L.ts.length t
section
variable {m N:Nat} {Q:V→List (List C)→Prop} {k:WK} {tt st:Tag} {tm:List TM} {ss:List SR} {nz rm:Int} {d:au ao}
theorem zj {l:List BB} {i:Nat} (h:i < l.length):l[i]? = some l[i]:=gE h
theorem adX (q:Nat) (hq:40≤q) (hk:KH k) (a0:BB) (x2:au ao) (x1:au aQ) (a3:au ec)
  (h:∀p∈k.ps,∀r∈p.rs,Q (.aq [.agg [sC p.nm,lC (.im p.rt) 1 (p.rs.map fun s=>[.str s]),lC (.im p.pt) 3 p.gR],.one (sC r)]) [bx aQ (W k tt tm st ss nz rm),bx ao d]) :
  ∀(c i:Nat),k.ps.length - i < c→i≤k.ps.length→Wp (Kj (T q) q x1 x2 c a0 (W k tt tm st ss nz rm) d a3 (i:Int)) Q
 | 0,i,hc,_=>by omega
 | c+1,i,hc,hi=>by
  refine aD ak9 (ai (fun h1=>?_) (fun h1=>?_))
  ·have af:i < k.ps.length:=bM h1;have hp:=hk.p2 _ (bL af);have hg:k.ps[i]? = some k.ps[i]:=gE af;have inner:∀(e j:Nat),k.ps[i].rs.length - j < e→j≤k.ps[i].rs.length→Wp (Kk (T q) q x1 x2 c e a0 (W k tt tm st ss nz rm) d a3 (i:Int) (j:Int)) Q:=by
    intro e;induction e with
    | zero=>intro j he;omega
    | succ e ih=>
     intro j he hj;refine aD ak' ?_;refine aM SW rfl hg (ai (fun h2=>?_) (fun h2=>?_))
     ·have lr:j < k.ps[i].rs.length:=bM h2;have hr:=zj lr;have gF:=hp.2.2.2 _ (bL lr);have hpn:=hp.1;refine aM (enc:=cZ) (f:=fun p=>(p.nm,())) (fun a=>⟨by simp [cZ],rfl⟩) rfl hg (cz (by dsimp only;omega) ?_);refine aM SW rfl hg ?_;refine aM (enc:=fun s:BB=>[D.str s]) (f:=fun s=>(s,())) (fun a=>⟨by simp,rfl⟩) rfl hr (cz (by dsimp only;simp only [ew,gp,jD];omega) ?_);refine ai (fun h4=>?_) (fun h4=>?_)
      ·refine aM Av rfl hg ?_;refine aM SW rfl hg ?_;refine aM (enc:=fun s:BB=>[D.str s]) (f:=fun s=>(s,())) (fun a=>⟨by simp,rfl⟩) rfl hr ?_;exact aA (h _ (bL af) _ (bL lr))
      ·rw [show ak ((j:Int)+1)=((j+1:Nat):Int) from fY (by omega) (by have:=hp.2.2.1;omega)];exact ih (j+1) (by omega) (by omega)
     ·rw [show ak ((i:Int)+1)=((i+1:Nat):Int) from fY (by omega) (by have:=hk.p1;omega)];exact adX q hq hk a0 x2 x1 a3 h c (i+1) (by omega) (by omega)
   exact inner q 0 (by have:=hp.2.2.1;omega) (by omega)
  ·have h0:0 < k.ps.length:=by have:=hk.p0;cases e8:k.ps with | nil=>exact absurd e8 this | cons=>simp
   have hg:k.ps[0]? = some k.ps[0]:=gE h0;have hp:=hk.p2 _ (bL h0);have hr:=zj (l:=k.ps[0].rs) (i:=0) (by have:=hp.2.1;omega);have qb:(k.ps.map cZ)[0]? = some (cZ k.ps[0]):=by rw [bO,hg];rfl
   have eU:(k.ps[0].rs.map fun s=>[D.str s])[0]? = some [D.str (k.ps[0].rs[0]'(by have:=hp.2.1;omega))]:=by rw [bO,hr];rfl
   refine fU qb (aE (bf (by simp [cZ])) (iO (v:=(k.ps[0].nm,(k.ps[0].rt,k.ps[0].rs.map fun s=>[.str s]),(k.ps[0].pt,k.ps[0].gR),())) rfl ?_));refine aD (yf (r:=cZ k.ps[0]) (v:=((k.ps[0].rt,k.ps[0].rs.map fun s=>[.str s]),())) qb (by simp [cZ]) rfl rfl) ?_;refine fU eU (aE (bf (by simp)) (iO (v:=(_,())) rfl ?_));exact aA (h _ (bL h0) _ (bL _))
theorem aes (hm:50≤m) (hk:KH k) {a0:BB} {K:acN.T→OR}
  (h:∀p∈k.ps,∀r∈p.rs,Wp (K (((p.nm,(p.rt,p.rs.map fun s=>[.str s]),(p.pt,p.gR),()),r,()),W k tt tm st ss nz rm,d,())) Q):Wp (c198 (T m) a0 (W k tt tm st ss nz rm) d K) Q:=by
 obtain ⟨m,rfl⟩:=cG hm;refine bH agM ?_;exact adX m (by omega) hk a0 d (W k tt tm st ss nz rm) _ (fun p hp r hr=>aC rfl (h p hp r hr)) m 0 (by have:=hk.p1;omega) (by omega)
theorem Hv (hm:1≤m) {a:BB} {b:Bool} {c:RR} {e:Bool} {f:RR} {r:BB} (ha:a.length≤20) (hr:r.length≤20) {K:ft.T→OR} (h:∀s:BB,s.length≤40→Wp (K (s,())) Q):Wp (Bj (T m) a b c e f r K) Q:=by
 obtain ⟨m,rfl⟩:=cG hm;exact bH agj (cz (by omega) (aA (aC (x:=(a++r,())) rfl (h _ (by simp;omega)))))
end
end
section
open Go Go.ax QQ
def cO (c:CR):List D:=[.str c.ro,.str c.pc,.sl .own 1 (c.ag.map bF)]
theorem Mb:∀l:List Int,aW (l.map bF)=l.map bF
 | []=>rfl
 | a::t=>by simp only [fS,aW,Mb t];rfl
theorem abP:∀l:List CR,aW (l.map cO)=(l.map fun c=>{ c with gt:=false }).map eC
 | []=>rfl
 | a::t=>by
  simp only [fS,aW,abP t];show [_,_,D.sl (.im false) 1 (aW (a.ag.map bF))]::_=_;rw [Mb];rfl
section
variable {m N:Nat} {Q:V→List (List C)→Prop} {k:WK} {tt st:Tag} {tm:List TM} {ss:List SR} {nz rm:Int} {d:au ao}
def Nu (k:WK) (N:Nat) (ss:List SR) (K:uB.T→OR) (Q:V→List (List C)→Prop):Prop:=
 ∀(s:BB) lj dB ss' oN gT d',WH N lj dB .own ss' oN gT→(∃x,ss'=ss++x)→cT d'→Wp (K (s,W k lj dB .own ss' oN gT,d',())) Q
theorem Sm (q:Nat) (hq:100≤q) (hN:N≤70000000) (p:PR) (hp:uw p) (a0:BB) (x2:au ao) (x1:au aQ) {K:uB.T→OR} (x3 x4 x5 x6:BB) (kd AF:Int) (h:Nu k (N+11) ss K Q) :
  ∀(c i:Nat) (tt:Tag) (tm:List TM) (cs:List CR) (d:au ao),p.rs.length - i < c→i≤p.rs.length→WH (N+i) tt tm st ss nz rm→cT d→cs.length≤i→(∀x∈cs,x.ag.length≤100)→
   Wp (F8 (T q) q x1 x2 c a0 (W k tt tm st ss nz rm) d (p.nm,(p.rt,p.rs.map fun s=>[.str s]),(p.pt,p.gR),()) (kd,x3,x4,x5,x6,AF,(true,[]),cs.map cO,(true,[]),-1,()) (i:Int)) (J uB K Q)
 | 0,i,tt,tm,cs,d,hc,_,_,_,_,_=>by omega
 | c+1,i,tt,tm,cs,d,hc,hi,H,hd,aR,PU=>by
  have hp3:=hp.2.2.1;refine aD ak2 (ai (fun h1=>?_) (fun h1=>?_))
  ·have af:i < p.rs.length:=bM h1;have hr:=zj af;have hw:=wI i;refine aM (enc:=fun s:BB=>[D.str s]) (f:=fun s=>(s,())) (fun a=>⟨by simp,rfl⟩) rfl hr (ai (fun h2=>?_) (fun h2=>?_))
   ·refine aM (enc:=fun s:BB=>[D.str s]) (f:=fun s=>(s,())) (fun a=>⟨by simp,rfl⟩) rfl hr ?_;refine aM (enc:=fun s:BB=>[D.str s]) (f:=fun s=>(s,())) (fun a=>⟨by simp,rfl⟩) rfl hr ?_;refine Hv (m:=q) (by omega) hp.1 (hp.2.2.2 _ (bL af)) fun s hs=>?_
    refine jS (m:=q) (n:=4) (by omega) (by omega) (by omega) hd fun j d1 hj cL=>?_
    refine w_num (m:=q) (k:=k) (by omega) (by have:=H.nt;omega) H.ot (aE (hC (by simp;omega) (by omega)) ?_);rw [hw];have H2:=H.terms (M:=N+(i+1)) (dB:=tm++[⟨1,[],(j:Int),[],-1,-1⟩]) (by omega) (by have:=H.nt;simp;omega) (qt H.kT ⟨.inr (.inl rfl),rfl,rfl,jb⟩);have:=Sm q hq hN p hp a0 x2 x1 x3 x4 x5 x6 kd AF h c (i+1) .own _ (cs++[⟨p.rs[i],s,false,[(tm.length:Int)]⟩]) d1 (by omega) (by omega) H2 cL (by simp;omega)
     (by intro x hx;rw [dC] at hx;rcases hx with hx | hx;exact PU x hx;simp at hx;subst hx;simp)
    rw [eg] at this;exact this
   ·rw [hw];exact Sm q hq hN p hp a0 x2 x1 x3 x4 x5 x6 kd AF h c (i+1) tt tm cs d (by omega) (by omega) (H.le (by omega)) hd (by omega) PU
  ·refine aE (by simp) ?_;have e1:aW (whole (cs.map cO))=(cs.map fun c=>{ c with gt:=false }).map eC:=by rw [dr,abP]
   dsimp only;rw [e1];refine uK (m:=q) (k:=k) (by omega) (by have:=H.ns;omega) H.os (by have:=H.r1;omega) (by have:=H.r2;omega) (aA ?_);refine aC rfl (h _ _ _ _ _ _ _ ((H.step ⟨⟨[],rfl,by simp⟩,⟨_,rfl,by simp;omega,?_⟩,⟨[],rfl,by simp⟩,.inr ⟨rfl,rfl⟩⟩).le (by omega)) ⟨_,rfl⟩ hd);intro x hx;simp only [iz] at hx;obtain ⟨y,hy,rfl⟩:=hx;exact PU y hy
theorem abx (q:Nat) (hq:100≤q) (hN:N≤70000000) (p:PR) (hp:uw p) (a0:BB) (x2:au ao) (x1:au aQ) {K:uB.T→OR} (x3 x4 x5 x6:BB) (kd AF:Int) (h:Nu k (N+11) ss K Q) :
  ∀(c i:Nat) (tt:Tag) (tm:List TM) (d:au ao),c≤q→p.rs.length - i < c→i≤p.rs.length→WH (N+i) tt tm st ss nz rm→cT d→
   Wp (Ki (T q) q x1 x2 c a0 (W k tt tm st ss nz rm) d (p.nm,(p.rt,p.rs.map fun s=>[.str s]),(p.pt,p.gR),()) (kd,x3,x4,x5,x6,AF,(true,[]),(true,[]),(true,[]),-1,()) (i:Int)) (J uB K Q)
 | 0,i,tt,tm,d,_,hc,_,_,_=>by omega
 | c+1,i,tt,tm,d,E5,hc,hi,H,hd=>by
  have hp3:=hp.2.2.1;refine aD ak1 (ai (fun h1=>?_) (fun h1=>?_))
  ·have af:i < p.rs.length:=bM h1;have hr:=zj af;have hw:=wI i;refine aM (enc:=fun s:BB=>[D.str s]) (f:=fun s=>(s,())) (fun a=>⟨by simp,rfl⟩) rfl hr (ai (fun h2=>?_) (fun h2=>?_))
   ·refine aM (enc:=fun s:BB=>[D.str s]) (f:=fun s=>(s,())) (fun a=>⟨by simp,rfl⟩) rfl hr ?_;refine aM (enc:=fun s:BB=>[D.str s]) (f:=fun s=>(s,())) (fun a=>⟨by simp,rfl⟩) rfl hr ?_;refine Hv (m:=q) (by omega) hp.1 (hp.2.2.2 _ (bL af)) fun s hs=>?_
    refine jS (m:=q) (n:=4) (by omega) (by omega) (by omega) hd fun j d1 hj cL=>?_
    refine w_num (m:=q) (k:=k) (by omega) (by have:=H.nt;omega) H.ot (aE rfl ?_);rw [hw];have H2:=H.terms (M:=N+(i+1)) (dB:=tm++[⟨1,[],(j:Int),[],-1,-1⟩]) (by omega) (by have:=H.nt;simp;omega) (qt H.kT ⟨.inr (.inl rfl),rfl,rfl,jb⟩);exact Sm q hq hN p hp a0 x2 x1 x3 x4 x5 x6 kd AF h c (i+1) .own _ [⟨p.rs[i],s,false,[(tm.length:Int)]⟩] d1 (by omega) (by omega) H2 cL (by simp)
     (by intro x hx;simp at hx;subst hx;simp)
   ·rw [hw];exact abx q hq hN p hp a0 x2 x1 x3 x4 x5 x6 kd AF h c (i+1) tt tm d (by omega) (by omega) (by omega) (H.le (by omega)) hd
  ·refine uK (m:=q) (k:=k) (by omega) (by have:=H.ns;omega) H.os (by have:=H.r1;omega) (by have:=H.r2;omega) (aA ?_);exact aC rfl (h _ _ _ _ _ _ _ ((H.step nR).le (by omega)) ⟨_,rfl⟩ hd)
theorem Ug (hm:110≤m) (hN:N≤60000000) (H:WH N tt tm st ss nz rm) (hd:cT d) {p:PR} (hp:uw p) {r:BB} {K:uB.T→OR} (h:Nu k (N+12) ss K Q) :
  Wp (c85 (T m) p.nm p.rt (p.rs.map fun s=>[.str s]) p.pt p.gR r (W k tt tm st ss nz rm) d K) Q:=by
 obtain ⟨m,rfl⟩:=cG hm;obtain ⟨z,rfl,hz⟩:=H.n0;refine bH agD (mG (m:=m) (by omega) (aed (m:=m) (by omega) (by omega) fun s h1 h2=>?_));exact abx m (by omega) (N:=N+1) (by omega) p hp r d _ _ _ _ _ _ _ h m 0 tt tm d (by omega) (by have:=hp.2.2.1;omega) (by omega) H.fresh hd
theorem aqQ (hm:120≤m) (hN:N≤60000000) (H:WH N tt tm st ss nz rm) (hk:KH k) (hd:cT d) {a:BB} {c:Int} {e:BB} {K:lA.T→OR}
  (h:∀lj dB st' ss' gT d',WH (N+3) lj dB st' ss' nz gT→(∃x,ss'=ss++x)→cT d'→Wp (K ((),W k lj dB st' ss' nz gT,d',())) Q):Wp (Wi (T m) a c e (W k tt tm st ss nz rm) d K) Q:=by
 obtain ⟨m,rfl⟩:=cG hm;have hl:=H.nt;have hs:=H.ns;have r1:=H.r1;have r2:=H.r2;refine bH agL (ai (fun h1=>?_) (fun h1=>?_))
 ·refine jS (m:=m) (n:=3) (by omega) (by omega) (by omega) hd fun j d1 hj cL=>ai (fun h2=>?_) (fun h2=>?_)
  ·refine mG (m:=m) (by omega) (rM (m:=m) (k:=k) (by omega) (by omega) H.ot ?_);have H2:=H.terms (M:=N+1) (dB:=tm++[⟨0,a,0,[],-1,-1⟩]) (by omega) (by simp;omega) (qt H.kT ⟨.inl rfl,rfl,rfl,jb⟩);refine uK (m:=m) (k:=k) (by omega) (by omega) H.os (by omega) (by omega) (aA ?_);exact aC rfl (h _ _ _ _ _ _ ((H2.step nR).le (by omega)) ⟨_,rfl⟩ cL)
  ·exact aA (aC rfl (h _ _ _ _ _ _ (H.le (by omega)) ⟨[],by simp⟩ cL))
 ·refine jS (m:=m) (n:=3) (by omega) (by omega) (by omega) hd fun j d1 hj cL=>ai (fun h2=>?_) (fun h2=>?_)
  ·refine mG (m:=m) (by omega) (uK (m:=m) (k:=k) (by omega) (by omega) H.os (by omega) (by omega) (aA ?_));exact aC rfl (h _ _ _ _ _ _ ((H.step nR).le (by omega)) ⟨_,rfl⟩ cL)
  ·refine aes (m:=m) (by omega) hk fun p hp r hr=>mG (m:=m) (by omega) ?_
   have jJ:=hk.p2 p hp;refine Hv (m:=m) (by omega) jJ.1 (jJ.2.2.2 r hr) fun s lN=>?_
   refine rM (m:=m) (k:=k) (by omega) (by omega) H.ot ?_;refine jS (m:=m) (n:=3) (by omega) (by omega) (by omega) cL fun j2 d2 lr fh=>?_
   refine w_num (m:=m) (k:=k) (by omega) (by simp;omega) (.inl rfl) ?_;have H2:=H.terms (M:=N+2) (dB:=tm++[⟨0,a,0,[],-1,-1⟩]++[⟨1,[],(j2:Int),[],-1,-1⟩]) (by omega) (by simp;omega) (qt (qt H.kT ⟨.inl rfl,rfl,rfl,jb⟩) ⟨.inr (.inl rfl),rfl,rfl,jb⟩);refine uK (m:=m) (k:=k) (by omega) (by omega) H.os (by omega) (by omega) (aA ?_);exact aC rfl (h _ _ _ _ _ _ ((H2.step ⟨⟨[_,_],rfl,by simp⟩,⟨[],rfl,by simp,by simp⟩,⟨[],rfl,by simp⟩,.inr ⟨rfl,rfl⟩⟩).le (by omega)) ⟨_,rfl⟩ fh)
end
end
section
open Go Go.ax QQ
section
variable {m N:Nat} {Q:V→List (List C)→Prop} {k:WK} {tt st:Tag} {tm:List TM} {ss:List SR} {nz rm:Int} {d:au ao}
theorem MB {ss:List SR} {i:Nat} {s:SR} (hs:ss[i]? = some s) {t:Tag} {r:RR}:bX (ss.map cS) (0+i) 8 (.sl t 3 r)=(ss.set i { s with wt:=t,ws:=r }).map cS:=by
 have:(ss.map cS).getD (0+i) []=cS s:=by simp [List.getD,hs]
 unfold bX;rw [this,dc,AY];rfl
theorem MA {ss:List SR} {i:Nat} {s:SR} (hs:ss[i]? = some s) {t:Tag} {r:RR}:bX (bX (ss.map cS) (0+i) 8 .dead) (0+i) 8 (.sl t 3 r)=(ss.set i { s with wt:=t,ws:=r }).map cS:=by
 have hi:i < ss.length:=(cB.1 hs).1;have:(ss.map cS).getD (0+i) []=cS s:=by simp [List.getD,hs]
 unfold bX;rw [this,dc,AY];have e:(((ss.map cS).set i ((cS s).set 8 .dead)).getD i [])=(cS s).set 8 .dead:=by
  simp [List.getD,hi]
 rw [e,UW];rfl
theorem aew {L:RR} {z:Int} {i:Nat} {s:SR} {ss:List SR} (hL:L=ss.map cS) (hz:z=(i:Int)) (hs:ss[i]? = some s) (hw:s.wt = .im true) {K:Nat→OR} (h:Wp (K i) Q) :
  Wp (aH (cp z) fun o5=>gd (decide (o5 < L.length)) (aH (L[0+o5]?) fun o6=>gd (decide (0+1+1+1+1+1+1+1+1+1≤o6.length)) (cF [.im 3] (List.take 1 (List.drop 8 o6)) fun v7=>gd (v7.1.1&&true&&true) (aH (cp z) fun o8=>gd (decide (o8 < L.length)) (aH (L[0+o8]?) fun o9=>gd (decide (0+1+1+1+1+1+1+1+1+1≤o9.length)&&true) (cF [.im 3] (List.take 1 (List.drop 8 o9)) fun v10=>K o8)))))) Q:=by
 subst hL;have hi:i < ss.length:=(cB.1 hs).1;have hg:(ss.map cS)[0+i]? = some (cS s):=by rw [dc,bO,hs];rfl
 have hd:dS [.im 3] (List.take 1 (List.drop 8 (cS s)))=some ((true,s.ws),()):=by
  show dS [.im 3] [.sl s.wt 3 s.ws]=_;rw [hw];rfl
 refine jd hz (aE (bf (by simpa using hi)) (fU hg (aE rfl (iO hd (aE rfl ?_)))));exact jd hz (aE (bf (by simpa using hi)) (fU hg (aE rfl (iO hd h))))
theorem Uo {z:Nat} {r:RR} {K:Nat→RR→OR} (h:Wp (K z r) Q):Wp (iZ (.sl .own z r) K) Q:=h
theorem aqT {L:RR} {z:Int} {i:Nat} {s:SR} {ss:List SR} (hL:L=ss.map cS) (hz:z=(i:Int)) (hs:ss[i]? = some s) {K:Nat→OR} (h:Wp (K i) Q) :
  Wp (aH (cp z) fun o8=>gd (decide (o8 < L.length)) (aH (L[0+o8]?) fun o9=>gd (decide (0+1+1+1+1+1+1+1+1+1≤o9.length)&&true) (cF [.any] (List.take 1 (List.drop 8 o9)) fun v10=>K o8))) Q:=by
 subst hL;have hi:i < ss.length:=(cB.1 hs).1;have hg:(ss.map cS)[0+i]? = some (cS s):=by rw [dc,bO,hs];rfl
 exact jd hz (aE (bf (by simpa using hi)) (fU hg (aE rfl (iO (v:=(.sl s.wt 3 s.ws,())) rfl h))))
theorem Ul {L:RR} {z:Int} {i x:Nat} {s:SR} {ss:List SR} (hL:L=ss.map cS) (hz:z=(i:Int)) (hs:ss[i]? = some s) (hw:s.wt = .own) (hx:x=s.ws.length) (hl:s.ws.length≤1000) {K:Nat→RR→OR} (h:Wp (K i s.ws) Q) :
  Wp (aH (L[0+i]?) fun oO=>aH (oO[0+1+1+1+1+1+1+1+1]?) fun GD=>iZ GD fun Hy s6=>gd (Hy==3) (gd (x==s6.length&&true&&decide ((s6.length+1) * 40≤140737488355328)) (aH (cp z) fun na=>gd (decide (na < L.length)) (gd (Nat.beq (0+i) (0+na)) (aH (L[0+i]?) fun GF=>aH (GF[0+1+1+1+1+1+1+1+1]?) fun GG=>iZ GG fun Hz r33=>gd (Hz==3) (aH ((bX L (0+i) 8 D.dead)[0+na]?) fun xS=>gd (decide (0+1+1+1+1+1+1+1+1+1≤xS.length)&&true) (cF [.any] (List.take 1 (List.drop 8 xS)) fun nu=>K na s6))))))) Q:=by
 subst hL;subst hx;have hi:i < ss.length:=(cB.1 hs).1;have hg:(ss.map cS)[0+i]? = some (cS s):=by rw [dc,bO,hs];rfl
 have h8:(cS s)[0+1+1+1+1+1+1+1+1]? = some (.sl .own 3 s.ws):=by
  show some (D.sl s.wt 3 s.ws)=_;rw [hw]
 have hr:(bX (ss.map cS) (0+i) 8 D.dead)[0+i]? = some ((cS s).set 8 .dead):=by
  have:(ss.map cS).getD (0+i) []=cS s:=by simp [List.getD,hs]
  unfold bX;rw [this];simp [hi]
 refine fU hg (fU h8 (Uo (aE rfl (aE (hC (by omega) (by omega)) (jd hz (aE (bf (by simpa using hi)) (aE (Nat.beq_refl _) ?_)))))));exact fU hg (fU h8 (Uo (aE rfl (fU hr (aE rfl (iO (v:=(.dead,())) rfl h))))))
theorem aex {L:RR} {z:Int} {i:Nat} {s:SR} {ss:List SR} (hL:L=ss.map cS) (hz:z=(i:Int)) (hs:ss[i]? = some s) (hw:qL s.wt s.ws) (hl:s.ws.length≤1000) {K1:Nat→OR} {K2:Nat→Nat→RR→OR} (h1:s.ws=[]→Wp (K1 i) Q) (h2:Wp (K2 i i s.ws) Q) :
  Wp (aH (cp z) fun lT=>gd (decide (lT < L.length)) (aH (L[0+lT]?) fun GH=>gd (decide (0+1+1+1+1+1+1+1+1+1≤GH.length)) (cF [.sl 3] (List.take 1 (List.drop 8 GH)) fun v37=>zZ v37.1.1 fun t38=>zM t38 (fun El=>gd (El&&true&&true) (aH (cp z) fun o8=>gd (decide (o8 < L.length)) (aH (L[0+o8]?) fun o9=>gd (decide (0+1+1+1+1+1+1+1+1+1≤o9.length)&&true) (cF [.any] (List.take 1 (List.drop 8 o9)) fun v10=>K1 o8)))) (aH (L[0+lT]?) fun oO=>aH (oO[0+1+1+1+1+1+1+1+1]?) fun GD=>iZ GD fun Hy s6=>gd (Hy==3) (gd (v37.1.2.length==s6.length&&true&&decide ((s6.length+1) * 40≤140737488355328)) (aH (cp z) fun na=>gd (decide (na < L.length)) (gd (Nat.beq (0+lT) (0+na)) (aH (L[0+lT]?) fun GF=>aH (GF[0+1+1+1+1+1+1+1+1]?) fun GG=>iZ GG fun Hz r33=>gd (Hz==3) (aH ((bX L (0+lT) 8 D.dead)[0+na]?) fun xS=>gd (decide (0+1+1+1+1+1+1+1+1+1≤xS.length)&&true) (cF [.any] (List.take 1 (List.drop 8 xS)) fun nu=>K2 lT na s6)))))))))) Q:=by
 have ff:=hL;subst hL;have hi:i < ss.length:=(cB.1 hs).1;have hg:(ss.map cS)[0+i]? = some (cS s):=by rw [dc,bO,hs];rfl
 have hd:dS [.sl 3] (List.take 1 (List.drop 8 (cS s)))=some ((s.wt,s.ws),()):=rfl;refine jd hz (aE (bf (by simpa using hi)) (fU hg (aE rfl (iO hd ?_))));rcases hw with hw | ⟨hw,ml⟩
 ·rw [hw];exact je (Ul rfl hz hs hw rfl hl h2)
 ·rw [hw];exact eY (aE rfl (aqT rfl hz hs (h1 ml)))
theorem xX {s:SR} (h:nQ s) {w:WR} (hl:s.ws.length < 100):nQ { s with wt:=.own,ws:=s.ws++[cW w] } := by
 obtain ⟨h1,h2,⟨l,h3,h3'⟩,h4⟩:=h;refine ⟨h1,h2,⟨l++[w],by simp [h3],?_⟩,.inl rfl⟩;rw [h3] at hl;simp at hl ⊢;omega
theorem WH.set {i:Nat} {s:SR} (h:WH N tt tm .own ss nz rm) (hs:nQ s) {t:Tag} (ht:t = .own):WH N tt tm t (ss.set i s) nz rm:=by
 have mj:=h.se rfl;refine ⟨h.ot,.inl ht,h.nt,by have:=h.ns;simpa using this,h.kT,?_,h.n0,h.r1,h.r2,h.te,fun _=>by simpa using mj⟩;intro x hx;rcases UT hx with hx | hx
 ·exact h.kS x hx
 ·subst hx;exact hs
theorem uE {X:Type} {l x:List X} {a b:X}:((l++[a])++x).set l.length b=(l++[b])++x:=by
 rw [eo,eo,List.set_append_right _ _ (by omega)];simp
theorem BO {X:Type} {l x:List X} {a:X}:((l++[a])++x)[l.length]? = some a:=by
 rw [eo,qI (by omega)];simp
theorem aqt (hm:120≤m) (hN:N≤50000000) (H:WH N tt tm st ss nz rm) (hd:cT d) {K:lA.T→OR}
  (h:∀dB ss' gT d',WH (N+12) .own dB .own ss' nz gT→(∃x,ss'=ss++x∧1≤x.length)→cT d'→Wp (K ((),W k .own dB .own ss' nz gT,d',())) Q):Wp (V7 (T m) (W k tt tm st ss nz rm) d K) Q:=by
 obtain ⟨m,rfl⟩:=bm 2 m;have hl:=H.nt;have hs:=H.ns;have r1:=H.r1;have r2:=H.r2;have rest:∀(s0:SR) (x0:au aQ) (x1:au ao) (a2:au ev) (z:Int) (yv:List TM),nQ s0→s0.wt = .im true→s0.ws=[]→WH (N+4) .own yv .own (ss++[s0]) nz (rm - 1)→
   Wp (Rf (T (m+1)) (m+1) x0 x1 (m+1) (Wr k .own (yv.map bz) .own (bX ((ss++[s0]).map cS) (0+ss.length) 8 (.sl .own 3 [[.str [],.str [],.int .i64 z]])) nz (rm - 1)) d a2 (ss.length:Int)) (J lA K Q):=by
  intro s0 x0 x1 a2 z yv oH FK zK H3;have e1:(ss++[s0]).set ss.length { s0 with wt:=.own,ws:=[cW ⟨[],[],z⟩] } = ss++[{ s0 with wt:=.own,ws:=[cW ⟨[],[],z⟩] }]:=by
   have:=uE (l:=ss) (x:=[]) (a:=s0) (b:={ s0 with wt:=.own,ws:=[cW ⟨[],[],z⟩] });simpa using this
  rw [MB (s:=s0) (by simp)];have OO:(ss++[s0]).set ss.length { s0 with wt:=.own,ws:=[[D.str [],D.str [],D.int .i64 z]] } = ss++[{ s0 with wt:=.own,ws:=[cW ⟨[],[],z⟩] }]:=e1;rw [OO];have kx:nQ { s0 with wt:=.own,ws:=[cW ⟨[],[],z⟩] } := by
   have:=xX oH (w:=⟨[],[],z⟩) (by rw [zK];simp);rw [zK] at this;exact this
  have H4:WH (N+4) .own yv .own (ss++[{ s0 with wt:=.own,ws:=[cW ⟨[],[],z⟩] }]) nz (rm - 1):=by
   have:=H3.set (i:=ss.length) kx (t:=.own) rfl;rw [e1] at this;exact this
  generalize hS:({ s0 with wt:=.own,ws:=[cW ⟨[],[],z⟩] }:SR)=s1 at kx H4;have ml:s1.wt = .own:=by subst hS;rfl
  have JL:s1.ws.length=1:=by subst hS;rfl
  have l4:=H4.nt;have l5:=H4.ns;refine aD akQ (mG (m:=m+1) (by omega) ?_);refine rM (m:=m+1) (k:=k) (ss:=ss++[s1]) (by omega) (by omega) (.inl rfl) ?_;refine aqA (m:=m+1) (k:=k) (by omega) (by simp;omega) (.inl rfl) (qt H4.kT ⟨.inl rfl,rfl,rfl,jb⟩) fun y MK hT4 Jw=>?_
  have Y3:MK.length=yv.length+4:=by rw [Jw];simp
  have H5:=H4.terms (M:=N+8) (dB:=MK) (by omega) (by have:=H3.nt;omega) hT4 (by intro h0;rw [h0] at Y3;simp at Y3);refine wF (m:=m+1) (k:=k) (by omega) (by omega) (.inl rfl) (by omega) (by omega) ?_;have H6:=H5.step (s:=⟨6,[],[],[],k.self,-1,false,[[.int .i64 (yv.length:Int)],[.int .i64 y]],true,[],.im true,[],-1⟩) ⟨⟨[_,_],rfl,by simp⟩,⟨[],rfl,by simp,by simp⟩,⟨[],rfl,by simp⟩,.inr ⟨rfl,rfl⟩⟩;refine MZ (m:=m+1) (k:=k) (by omega) (N:=N+9) (by omega) H6 fun nW Dv H7 ⟨x,hx,vJ⟩=>je ?_
  have eP:nW[ss.length]? = some s1:=by
   rw [hx,eo];exact BO
  have af:ss.length < nW.length:=(cB.1 eP).1;refine jd rfl (aE (bf (by simpa [W] using af)) (fU (b:=cS s1) (by show (nW.map cS)[0+ss.length]? = _;rw [dc,bO,eP];rfl) (aE rfl (iO (v:=(s1.ws,())) ?_ ?_))))
  ·show dS [.own 3] [.sl s1.wt 3 s1.ws]=_;rw [ml];rfl
  refine Ul (ss:=nW) (s:=s1) rfl rfl eP ml rfl (by omega) (aA ?_);refine aC (x:=((),W k .own MK .own (nW.set ss.length { s1 with wt:=.own,ws:=s1.ws++[cW ⟨[],[],((((ss++[s1])++[(⟨6,[],[],[],k.self,-1,false,[[.int .i64 (yv.length:Int)],[.int .i64 y]],true,[],.im true,[],-1⟩:SR)]).length:Nat):Int)⟩] }) nz Dv,d,())) ?_ (h _ _ _ _ ((H7.set (xX kx (by omega)) rfl).le (by omega)) ?_ hd)
  ·show ik lA (.aq [],[bx aQ (Wr k .own (MK.map bz) .own (bX (bX (nW.map cS) (0+ss.length) 8 .dead) (0+ss.length) 8 (.sl .own 3 (s1.ws++[cW ⟨[],[],((((ss++[s1])++[(⟨6,[],[],[],k.self,-1,false,[[.int .i64 (yv.length:Int)],[.int .i64 y]],true,[],.im true,[],-1⟩:SR)]).length:Nat):Int)⟩]))) nz Dv),bx ao d])=_;rw [MA eP];rfl
  ·rw [hx,eo _ _ x,uE];exact ⟨_,eo _ _ _,by simp⟩
 refine bH ago (mG (m:=m+1) (by omega) ?_);refine w_num (m:=m+1) (k:=k) (by omega) (by omega) H.ot ?_;refine rM (m:=m+1) (k:=k) (by omega) (by simp;omega) (.inl rfl) ?_;refine yz (m:=m+1) (k:=k) (by omega) (by simp;omega) (.inl rfl) ?_;have H2:=H.terms (M:=N+3) (dB:=_) (by omega) (by simp;omega) (xY (x:=⟨1,[],0,[],-1,-1⟩) (y:=⟨0,[110],0,[],-1,-1⟩) (c:=12) H.kT ⟨.inr (.inl rfl),rfl,rfl,jb⟩ ⟨.inl rfl,rfl,rfl,jb⟩ (.inr (.inr (.inr (.inl rfl)))) (.inl (by decide)));refine wF (m:=m+1) (k:=k) (by omega) (by omega) H.os (by omega) (by omega) ?_;refine aew (i:=ss.length) (s:=⟨3,[],[],[],[],((tm++[(⟨1,[],0,[],-1,-1⟩:TM)]++[(⟨0,[110],0,[],-1,-1⟩:TM)]).length:Int),true,[],true,[],.im true,[],-1⟩) rfl rfl (by simp) rfl ?_;exact rest _ _ _ _ _ _ nR rfl rfl (H2.step nR)
end
end
section
open Go Go.ax QQ
structure RL (k:WK) (L:LR):Prop where
 i:∃r:Nat,k.role=(r:Int)∧k.ty[r]? = some L
 l1:1≤L.ts.length
 l2:L.ts.length≤100
 ok:∀t∈L.ts,GN L.ts.length t
def HT (k:WK) (M:Nat) (ss:List SR) (K:lA.T→OR) (Q:V→List (List C)→Prop):Prop:=
 ∀lj dB ss' oN gT d',WH M lj dB .own ss' oN gT→(∃x,ss'=ss++x∧1≤x.length)→cT d'→Wp (K ((),W k lj dB .own ss' oN gT,d',())) Q
def Bd:Nat→Nat
 | 0=>20
 | e+1=>11 * Bd e+300
def uT (e:Nat):Prop:=∀(m N:Nat) (k:WK) (L:LR) (tt st:Tag) (tm:List TM) (ss:List SR) (nz rm:Int) (d:au ao) (nY:Nat) (K:lA.T→OR) (Q:V→List (List C)→Prop),
 200+20 * e≤m→N+Bd e≤40000000→KH k→RL k L→nY < L.ts.length→WH N tt tm st ss nz rm→cT d→HT k (N+Bd e) ss K Q→Wp (Et (T m) (nY:Int) ((5 - e:Nat):Int) (W k tt tm st ss nz rm) d K) Q
section
variable {m N e:Nat} {Q:V→List (List C)→Prop} {k:WK} {L:LR} {tt st:Tag} {tm:List TM} {ss:List SR} {nz rm:Int} {d:au ao}
def HX (k:WK) (M:Nat) (ss:List SR) (z:Int) (K:uC.T→OR) (Q:V→List (List C)→Prop):Prop:=
 ∀lj dB ss' oN gT d',WH M lj dB .own ss' oN gT→(∃x,ss'=ss++x∧1≤x.length)→cT d'→Wp (K (z,W k lj dB .own ss' oN gT,d',())) Q
theorem OG (he:e≤4):ak (((4 - e:Nat):Int)+1)=((5 - e:Nat):Int):=by
 rw [show (((4 - e:Nat):Int)+1)=((5 - e:Nat):Int) by omega];exact fY rfl (by omega)
theorem acZ (hB:uT e) (he:e≤4) (hm:205+20 * e≤m) (hN:N+1+Bd e≤40000000) (hk:KH k) (hL:RL k L) {nx:Nat} (hx:nx < L.ts.length) (H:WH N tt tm st ss nz rm) (hd:cT d) {x3:au aQ} {x4:au ao} {z:Int} {a4:au jB} {q1:BB} {q2:Int} {q3:BB} {y1 y2:BB} {tz:Int} {K:uC.T→OR}
  (h:HX k (N+1+Bd e) ss z K Q) :
  Wp (CL (T m) m x3 x4 m ((4 - e:Nat):Int) (W k tt tm st ss nz rm) d z a4 (q1,q2,q3,(nx:Int),()) (4,[99],y1,y2,[],tz,(true,[]),(true,[]),(true,[]),-1,())) (J uC K Q):=by
 obtain ⟨j,hj⟩:=bm 1 m;have r1:=H.r1;have r2:=H.r2;have hs:=H.ns;have e1:∀w:Nat,CL (T m) m x3 x4 m ((4 - e:Nat):Int)=CL (T m) m x3 x4 (j+1) ((4 - e:Nat):Int):=fun _=>by rw [←hj]
 rw [e1 0];refine aD ak5 ?_;refine uK (m:=m) (k:=k) (by omega) (by omega) H.os (by omega) (by omega) ?_;rw [OG he];refine hB m (N+1) k L tt .own tm _ nz (rm - 1) d nx _ _ (by omega) (by omega) hk hL hx (H.step nR) hd fun lj dB ss' oN gT d' H' vK dz=>aA ?_
 obtain ⟨x,rfl,vJ⟩:=vK;exact aC rfl (h _ _ _ _ _ _ H' ⟨_,eo _ _ _,by simp⟩ dz)
theorem apl (hB:uT e) (he:e≤4) (hm:205+20 * e≤m) (hN:N+1+Bd e≤40000000) (hk:KH k) (hL:RL k L) {nx:Nat} (hx:nx < L.ts.length) (H:WH N tt tm st ss nz rm) (hd:cT d) {x3:au aQ} {x4:au ao} {z:Int} {a4:au jB} {q1:BB} {q2:Int} {q3:BB} {y1 y2:BB} {tz:Int} {a7:au ec} {K:uC.T→OR}
  (h:HX k (N+1+Bd e) ss z K Q) :
  Wp (F9 (T m) m x3 x4 m ((4 - e:Nat):Int) (W k tt tm st ss nz rm) d z a4 (q1,q2,q3,(nx:Int),()) (4,[99],y1,y2,[],tz,(true,[]),(true,[]),(true,[]),-1,()) a7) (J uC K Q):=by
 obtain ⟨j,hj⟩:=bm 1 m;have r1:=H.r1;have r2:=H.r2;have hs:=H.ns;have e1:∀w:Nat,F9 (T m) m x3 x4 m ((4 - e:Nat):Int)=F9 (T m) m x3 x4 (j+1) ((4 - e:Nat):Int):=fun _=>by rw [←hj]
 rw [e1 0];refine aD ak6 ?_;refine uK (m:=m) (k:=k) (by omega) (by omega) H.os (by omega) (by omega) ?_;rw [OG he];refine hB m (N+1) k L tt .own tm _ nz (rm - 1) d nx _ _ (by omega) (by omega) hk hL hx (H.step nR) hd fun lj dB ss' oN gT d' H' vK dz=>aA ?_
 obtain ⟨x,rfl,vJ⟩:=vK;exact aC rfl (h _ _ _ _ _ _ H' ⟨_,eo _ _ _,by simp⟩ dz)
theorem Uh (hB:uT e) (he:e≤4) (hm:208+20 * e≤m) (hN:N+20+Bd e≤40000000) (hk:KH k) (hL:RL k L) {nY arm:Nat} {t:TN} (ht:L.ts[nY]? = some t) (ha:arm < t.ms.length) (H:WH N tt tm st ss nz rm) (hd:cT d) {K:uC.T→OR}
  (h:HX k (N+20+Bd e) ss (ss.length:Int) K Q):Wp (c145 (T m) (nY:Int) (arm:Int) ((4 - e:Nat):Int) (W k tt tm st ss nz rm) d K) Q:=by
 obtain ⟨m,rfl⟩:=cG hm;have hn:ae (ss.map cS).length=(ss.length:Int):=by rw [bJ];simp
 rw [←hn] at h;have hl:=H.nt;have hs:=H.ns;obtain ⟨r,jZ,sH⟩:=hL.i;have hga:t.ms[arm]? = some t.ms[arm]:=gE ha;have vI:t∈L.ts:=fm ht;have Ce:t.ms[arm].nx < L.ts.length:=by
  rcases hL.ok t vI with ⟨_,h2⟩ | ⟨_,_,_,h2⟩
  ·rw [h2] at ha;simp at ha
  ·exact h2 _ (bL ha)
 have mono:∀{M:Nat},M+1+Bd e≤N+20+Bd e→∀{wv:List SR},(∃x,wv=ss++x)→HX k (M+1+Bd e) wv (ae (ss.map cS).length) K Q:=by
  intro M hM wv ⟨x,hx⟩ lj dB ss' oN gT d' H' ⟨y,hy,zL⟩ dz;exact h _ _ _ _ _ _ (H'.le hM) ⟨x++y,by rw [hy,hx,eo],by simp;omega⟩ dz
 have self:∃x,ss=ss++x:=⟨[],by simp⟩
 refine bH agH ?_;rcases H.os with bA | ⟨bA,Cm⟩<;>subst bA
 all_goals (
   first | refine je ?_ | refine eY ?_
   refine aM SX jZ sH ?_
   refine aM SY rfl ht ?_
   refine aM (enc := cM) (f := fun a => (a.mq, a.kd, a.nm, (a.nx : Int), ())) (fun a => ⟨by simp [cM], rfl⟩) rfl hga ?_
   refine mG (m := m) (by omega) (ai (fun h1 => ?_) (fun h1 => ai (fun h2 => ?_) (fun h2 => ?_)))
   · exact acZ (k := k) hB he (by omega) (by omega) hk hL Ce H hd (mono (by omega) self)
   · refine aes (m := m) (k := k) (by omega) hk fun p hp ro zG => ?_
     refine Ug (m := m) (k := k) (by omega) (N := N) (by omega) H hd (hk.p2 p hp) fun s ti rG wv sW s7 d1 H1 vJ cL => ?_
     have l1 := H1.nt
     refine rM (m := m) (k := k) (by omega) (by omega) H1.ot ?_
     exact apl (k := k) hB he (by omega) (N := N + 13) (by omega) hk hL Ce (H1.terms (by omega) (by simp; omega) (qt H1.kT ⟨.inl rfl, rfl, rfl, jb⟩)) cL (mono (by omega) vJ)
   · refine aqw (m := m) (k := k) (by omega) (by omega) H hd fun z rG d1 hT1 jI ajF cL => ?_
     exact acZ (k := k) hB he (by omega) (N := N + 3) (by omega) hk hL Ce (H.terms (by omega) (by omega) hT1 ajF) cL (mono (by omega) self))
end
end
section
open Go Go.ax QQ
section
variable {m N e:Nat} {Q:V→List (List C)→Prop} {k:WK} {L:LR} {tt st:Tag} {tm:List TM} {ss:List SR} {nz rm:Int} {d:au ao}
theorem YN (hB:uT e) (he:e≤4) (q:Nat) (hq:205+20 * e≤q) (hk:KH k) (hL:RL k L) {M:Nat} (hM:M≤40000000) {t:TN} (ht:t∈L.ts) (Cc:t.ms.length≤10) {x2:au aQ} {x3:au ao} {K:lA.T→OR}
  (h:HT k M ss K Q):∀(c i N:Nat) (tt:Tag) (tm:List TM) (s:SR) (x:List SR) (nz rm:Int) (d:au ao),c≤q→t.ms.length - i < c→i≤t.ms.length→N+(t.ms.length - i) * (Bd e+10)+10≤M→nQ s→s.ws.length≤i→WH N tt tm .own ((ss++[s])++x) nz rm→cT d→
   Wp (CJ (T q) q x2 x3 c ((4 - e:Nat):Int) (W k tt tm .own ((ss++[s])++x) nz rm) d (t.kd,t.pr,(t.t,t.ms.map cM),()) (ss.length:Int) (i:Int)) (J lA K Q)
 | 0,i,N,tt,tm,s,x,nz,rm,d,_,hc,_,_,_,_,_,_=>by omega
 | c+1,i,N,tt,tm,s,x,nz,rm,d,E5,hc,hi,hN,hs,hw,H,hd=>by
  have ls:=H.ns;have lt:=H.nt;have r1:=H.r1;have r2:=H.r2;refine aD akW (ai (fun h1=>?_) (fun h1=>?_))
  ·have af:i < t.ms.length:=bM h1;have hN':N+(Bd e+10)+(t.ms.length - (i+1)) * (Bd e+10)+10≤M:=by
    have:(t.ms.length - i)=(t.ms.length - (i+1))+1:=by omega
    rw [this,Nat.succ_mul] at hN;omega
   have hg:t.ms[i]? = some t.ms[i]:=gE af;have Ce:t.ms[i].nx < L.ts.length:=by
    rcases hL.ok t ht with ⟨_,h2⟩ | ⟨_,_,_,h2⟩
    ·rw [h2] at af;simp at af
    ·exact h2 _ (bL af)
   have Qe:(t.ms.map cM)[i]? = some (cM t.ms[i]):=by rw [bO,hg];rfl
   have JM:=wI i;have rest:∀(ti:Tag) (rG:List TM) (DH:Tag) (x1:List SR) (sW s7:Int) (d1:au ao) (y1 y2:BB) (y3:Int),WH (N+5) ti rG DH ((ss++[s])++x1) sW s7→cT d1→
     Wp (CK (T q) q x2 x3 c q ((4 - e:Nat):Int) (W k ti rG DH ((ss++[s])++x1) sW s7) d1 (t.kd,t.pr,(t.t,t.ms.map cM),()) (ss.length:Int) (i:Int) (y1,y2,y3,())) (J lA K Q):=by
    intro ti rG DH x1 sW s7 d1 y1 y2 y3 H1 cL;obtain ⟨j,hj⟩:=bm 1 q;have e1:CK (T q) q x2 x3 c q ((4 - e:Nat):Int)=CK (T q) q x2 x3 c (j+1) ((4 - e:Nat):Int):=by rw [←hj]
    rw [e1];refine aD akX ?_;refine aM yg rfl hg ?_;rw [OG he];refine hB q (N+5) k L ti DH rG _ sW s7 d1 _ _ _ (by omega) (by omega) hk hL Ce H1 cL fun DO DI yu nz2 Du d2 H2 vK fh=>je ?_
    obtain ⟨y,hy,zL⟩:=vK;have fO:yu=(ss++[s])++(x1++y):=by rw [hy];simp
    have eP:yu[ss.length]? = some s:=by rw [fO];exact BO
    rw [JM];have di:∀(s2:SR),nQ s2→s2.ws.length≤i+1→Wp (CJ (T q) q x2 x3 c ((4 - e:Nat):Int) (Wr k DO (DI.map bz) .own ((yu.set ss.length s2).map cS) nz2 Du) d2 (t.kd,t.pr,(t.t,t.ms.map cM),()) (ss.length:Int) ((i+1:Nat):Int)) (J lA K Q):=by
     intro s2 kU ml;have H3:=H2.set (i:=ss.length) kU (t:=.own) rfl;rw [fO,uE] at H3 ⊢;exact YN hB he q hq hk hL hM ht Cc h c (i+1) (N+(Bd e+10)) DO DI s2 (x1++y) nz2 Du d2 (by omega) (by omega) (by omega) hN' kU ml (H3.le (by omega)) fh
    refine aex (ss:=yu) (s:=s) rfl rfl eP hs.2.2.2 (by omega) (fun h0=>?_) ?_
    ·have:=xX hs (w:=⟨y1,y2,y3⟩) (by omega);rw [h0] at this;have g:=di _ this (by simp);rw [←MB eP] at g;exact g
    ·have g:=di _ (xX hs (w:=⟨y1,y2,y3⟩) (by omega)) (by simp;omega);rw [←MA eP] at g;exact g
   refine aM Ds rfl hg (je ?_);refine jd rfl (fU Qe (aE rfl (iO (v:=(t.ms[i].kd,())) rfl (ai (fun h2=>?_) (fun h2=>?_)))))
   ·obtain ⟨z,rfl,hz⟩:=H.n0;refine aed (m:=q) (k:=k) (by omega) (by omega) fun y g1 g2=>?_
    refine aM G1 rfl hg ?_;refine aqQ (m:=q) (k:=k) (by omega) (N:=N+1) (by omega) H.fresh hk hd fun ti rG DH wv s7 d1 H1 vK cL=>?_
    obtain ⟨y2,rfl⟩:=vK;have:=rest ti rG DH (x++y2) _ s7 d1 t.ms[i].mq y (ae (((ss++[s])++x).map cS).length) (by rw [←eo];exact H1.le (by omega)) cL;rw [←eo] at this;exact this
   ·exact rest tt tm .own x nz rm d _ _ _ (H.le (by omega)) hd
  ·refine jS (m:=q) (n:=3) (by omega) (by omega) (by omega) hd fun j d1 hj cL=>ai (fun h2=>je ?_) (fun h2=>?_)
   ·refine mG (m:=q) (by omega) (AN (m:=q) (k:=k) (by omega) (by omega) H.ot ?_);refine uK (m:=q) (k:=k) (by omega) (by omega) H.os (by omega) (by omega) (mG (m:=q) (by omega) ?_);have H2:=H.terms (M:=N+1) (dB:=tm++[(⟨3,[],0,[108,111,115,116],-1,-1⟩:TM)]) (by omega) (by simp;omega) (qt H.kT ⟨.inr (.inr (.inl rfl)),rfl,rfl,jb⟩);refine wF (m:=q) (k:=k) (by omega) (by simp at ls ⊢;omega) (.inl rfl) (by omega) (by omega) ?_;have H3:=(H2.step (s:=⟨2,[],[],[],[],(tm.length:Int),true,[],true,[],.im true,[],((((ss++[s])++x).length+1:Nat):Int)⟩) nR).step (s:=⟨0,[],[],[],[],-1,true,[],true,[],.im true,[],-1⟩) nR;have fin:∀(s2:SR) (x2:List SR),nQ s2→WH (N+1+1+1) .own (tm++[(⟨3,[],0,[108,111,115,116],-1,-1⟩:TM)]) .own ((ss++[s2])++x2) nz (rm - 1 - 1)→Wp (K ((),W k .own (tm++[(⟨3,[],0,[108,111,115,116],-1,-1⟩:TM)]) .own ((ss++[s2])++x2) nz (rm - 1 - 1),d1,())) Q:=
     fun s2 x2 kU H5=>h _ _ _ _ _ _ (H5.le (by omega)) ⟨_,eo _ _ _,by simp⟩ cL
    generalize ZD:(⟨2,[],[],[],[],(tm.length:Int),true,[],true,[],.im true,[],((((ss++[s])++x).length+1:Nat):Int)⟩:SR)=sa at H3;generalize JP:(⟨0,[],[],[],[],-1,true,[],true,[],.im true,[],-1⟩:SR)=sb at H3;have eP:(((ss++[s])++x)++[sa]++[sb])[ss.length]? = some s:=by
     rw [show ((ss++[s])++x)++[sa]++[sb]=(ss++[s])++(x++[sa]++[sb]) by simp];exact BO
    have di:∀(s2:SR),nQ s2→Wp (aG lA (some (.aq [],[bx aQ (Wr k .own ((tm++[(⟨3,[],0,[108,111,115,116],-1,-1⟩:TM)]).map bz) .own (((((ss++[s])++x)++[sa]++[sb]).set ss.length s2).map cS) nz (rm - 1 - 1)),bx ao d1])) K) Q:=by
     intro s2 kU;have H4:=H3.set (i:=ss.length) kU (t:=.own) rfl;rw [show ((ss++[s])++x)++[sa]++[sb]=(ss++[s])++(x++[sa]++[sb]) by simp,uE] at H4 ⊢;exact aC rfl (fin s2 _ kU H4)
    subst ZD JP;refine aex (s:=s) rfl rfl eP hs.2.2.2 (by omega) (fun h0=>aA ?_) (aA ?_)
    ·have:=xX hs (w:=⟨[],[],ae (((ss++[s])++x).map cS).length⟩) (by omega);rw [h0] at this;have g:=di _ this;rw [←MB eP] at g;exact g
    ·have g:=di _ (xX hs (w:=⟨[],[],ae (((ss++[s])++x).map cS).length⟩) (by omega));rw [←MA eP] at g;exact g
   ·exact aA (aC rfl (h _ _ _ _ _ _ (H.le (by omega)) ⟨[s]++x,by simp,by simp⟩ cL))
theorem aqy (hB:uT e) (he:e≤4) (hm:208+20 * e≤m) (hN:N+11 * Bd e+200≤40000000) (hk:KH k) (hL:RL k L) {nY:Nat} {t:TN} (ht:L.ts[nY]? = some t) (H:WH N tt tm st ss nz rm) (hd:cT d) {K:lA.T→OR}
  (h:HT k (N+11 * Bd e+200) ss K Q):Wp (c143 (T m) (nY:Int) ((4 - e:Nat):Int) (W k tt tm st ss nz rm) d K) Q:=by
 obtain ⟨m,rfl⟩:=cG hm;have hs:=H.ns;have r1:=H.r1;have r2:=H.r2;obtain ⟨r,jZ,sH⟩:=hL.i;have vI:t∈L.ts:=fm ht;have Cc:t.ms.length≤10:=by
  rcases hL.ok t vI with ⟨_,h2⟩ | ⟨_,_,h2,_⟩
  ·rw [h2];simp
  ·exact h2
 refine bH agx ?_;refine aM SX jZ sH ?_;refine aM SY rfl ht ?_;refine mG (m:=m) (by omega) (wF (m:=m) (k:=k) (by omega) (by omega) H.os (by omega) (by omega) ?_);have hNN:N+1+(t.ms.length - 0) * (Bd e+10)+10≤N+11 * Bd e+200:=by
  have:(t.ms.length - 0) * (Bd e+10)≤10 * (Bd e+10):=nC _ (by omega);omega
 have:=YN hB he m (by omega) hk hL hN vI Cc h m 0 (N+1) tt tm ⟨5,[99],t.pr,[],[],-1,true,[],true,[],.im true,[],-1⟩ [] nz (rm - 1) d (by omega) (by omega) (by omega) hNN nR (by simp) (by rw [mH];exact H.step nR) hd (x2:=W k tt tm st ss nz rm) (x3:=d);rw [mH] at this;exact this
end
end
section
open Go Go.ax QQ
section
variable {m N e:Nat} {Q:V→List (List C)→Prop} {k:WK} {L:LR} {tt st:Tag} {tm:List TM} {ss:List SR} {nz rm:Int} {d:au ao}
theorem U8:∀e,20≤Bd e
 | 0=>by decide
 | e+1=>by have:=U8 e;unfold Bd;omega
theorem ae' (hB:uT e) (he:e≤4) (hm:210+20 * e≤m) (hN:N+30+Bd e≤40000000) (hk:KH k) (hL:RL k L) {nY arm:Nat} {t:TN} (ht:L.ts[nY]? = some t) (ha:arm < t.ms.length)
  {s0:SR} {x:List SR} {z:Int} (oH:nQ s0) (FK:s0.wt = .im true) (zK:s0.ws=[]) (H:WH N tt tm .own ((ss++[s0])++x) nz rm) (hd:cT d) {x2:au aQ} {x3:au ao} {a4:au jB} {a5:au ev} {K:lA.T→OR}
  (h:HT k (N+20+Bd e) ss K Q) :
  Wp (zX (T m) m x2 x3 m (nY:Int) ((4 - e:Nat):Int) (Wr k tt (tm.map bz) .own (bX (((ss++[s0])++x).map cS) (0+ss.length) 8 (.sl .own 3 [[.str [],.str [],.int .i64 z]])) nz rm) d a4 a5 (ss.length:Int) (arm:Int)) (J lA K Q):=by
 obtain ⟨j,hj⟩:=bm 1 m;have e1:zX (T m) m x2 x3 m=zX (T m) m x2 x3 (j+1):=by rw [←hj]
 rw [e1,MB (s:=s0) BO];have kx:nQ { s0 with wt:=.own,ws:=[[D.str [],D.str [],D.int .i64 z]] } := by
  have:=xX oH (w:=⟨[],[],z⟩) (by rw [zK];simp);rw [zK] at this;exact this
 have H2:=H.set (i:=ss.length) kx (t:=.own) rfl;rw [uE] at H2 ⊢;generalize hS:({ s0 with wt:=.own,ws:=[[D.str [],D.str [],D.int .i64 z]] }:SR)=s1 at kx H2;have ml:s1.wt = .own:=by subst hS;rfl
 have JL:s1.ws.length=1:=by subst hS;rfl
 refine aD akT ?_;refine Uh (m:=m) (k:=k) (ss:=(ss++[s1])++x) hB he (by omega) (N:=N) (by omega) hk hL ht ha H2 hd fun T3 TV nW R6 Dv d5 H7 ⟨y,hy,zL⟩ E7=>je ?_
 have eP:nW[ss.length]? = some s1:=by rw [hy,eo];exact BO
 have af:ss.length < nW.length:=(cB.1 eP).1;refine jd rfl (aE (bf (by simpa [W] using af)) (fU (b:=cS s1) (by show (nW.map cS)[0+ss.length]? = _;rw [dc,bO,eP];rfl) (aE rfl (iO (v:=(s1.ws,())) ?_ ?_))))
 ·show dS [.own 3] [.sl s1.wt 3 s1.ws]=_;rw [ml];rfl
 refine Ul (ss:=nW) (s:=s1) rfl rfl eP ml rfl (by omega) (aA ?_);refine aC (x:=((),W k T3 TV .own (nW.set ss.length { s1 with wt:=.own,ws:=s1.ws++[cW ⟨[],[],((((ss++[s1])++x).length:Nat):Int)⟩] }) R6 Dv,d5,())) ?_ (h _ _ _ _ _ _ ((H7.set (xX kx (by omega)) rfl).le (by omega)) ?_ E7)
 ·show ik lA (.aq [],[bx aQ (Wr k T3 (TV.map bz) .own (bX (bX (nW.map cS) (0+ss.length) 8 .dead) (0+ss.length) 8 (.sl .own 3 (s1.ws++[cW ⟨[],[],((((ss++[s1])++x).length:Nat):Int)⟩]))) R6 Dv),bx ao d5])=_;rw [MA eP];rfl
 ·rw [hy,eo _ x y,uE];exact ⟨_,eo _ _ _,by simp⟩
theorem VO (e:Nat) (he:e≤5) (hp:∀e',e=e'+1→uT e'):uT e:=by
 intro m N k L tt st tm ss nz rm d nY K Q hm hN hk hL htu H hd h;obtain ⟨m,rfl⟩:=cG hm;obtain ⟨r,jZ,sH⟩:=hL.i;have ht:L.ts[nY]? = some L.ts[nY]:=gE htu;generalize L.ts[nY]=t at ht;have vI:t∈L.ts:=fm ht;have hb:=U8 e;have ls:=H.ns;have lt:=H.nt;have r1:=H.r1;have r2:=H.r2;refine bH ags ?_;refine aM SX jZ sH ?_;refine aM SY rfl ht (ai (fun h1=>?_) (fun h1=>?_))
 ·refine MZ (m:=m) (k:=k) (by omega) (N:=N) (by omega) H fun ss' gT H' hx=>aA ?_
  exact aC rfl (h _ _ _ _ _ _ (H'.le (by omega)) hx hd)
 have nI:t.kd≠0:=by simpa using h1
 have Cc:1≤t.ms.length:=by
  rcases hL.ok t vI with ⟨h2,_⟩ | ⟨_,h2,_,_⟩
  ·exact absurd h2 nI
  ·exact h2
 have arj:t.ms.length≤10:=by
  rcases hL.ok t vI with ⟨h2,_⟩ | ⟨_,_,h2,_⟩
  ·exact absurd h2 nI
  ·exact h2
 refine ai (fun h2=>ai (fun h3=>ai (fun h4=>?_) (fun h4=>?_)) (fun h3=>?_)) (fun h2=>?_)
 ·refine aqt (m:=m) (k:=k) (by omega) (N:=N) (by omega) H hd fun dB ss' gT d' H' hx dz=>aA ?_
  exact aC rfl (h _ _ _ _ _ _ (H'.le (by omega)) hx dz)
 all_goals (
   refine ai (fun h5 => ?_) (fun h5 => ai (fun h6 => ?_) (fun h6 => ?_))
   · refine MZ (m := m) (k := k) (by omega) (N := N) (by omega) H fun ss' gT H' hx => aA ?_
     exact aC rfl (h _ _ _ _ _ _ (H'.le (by omega)) hx hd)
   · refine MZ (m := m) (k := k) (by omega) (N := N) (by omega) H fun ss' gT H' hx => aA ?_
     exact aC rfl (h _ _ _ _ _ _ (H'.le (by omega)) hx hd)
   cases e with
   | zero => exact absurd h6 (by decide)
   | succ e =>
     have hB := hp e rfl
     rw [show 5 - (e + 1) = 4 - e by omega]
     have hbe : Bd (e + 1) = 11 * Bd e + 300 := rfl
     have say : ∀ {d1 : au ao} (j : Nat), j < (t.ms.map cM).length → cT d1 → Wp (c145 (T m) (nY : Int) (j : Int) ((4 - e : Nat) : Int) (W k tt tm st ss nz rm) d1 fun e9 => (some ((.aq []), [(bx aQ e9.2.1), (bx ao e9.2.2.1)]))) (J lA K Q) := by
       intro d1 j hj cL
       refine Uh (m := m) (k := k) hB (by omega) (by omega) (N := N) (by omega) hk hL ht (by simpa using hj) H cL fun lj dB ss' oN gT d' H' hx dz => aA ?_
       exact aC rfl (h _ _ _ _ _ _ (H'.le (by omega)) hx dz)
     refine ai (fun h7 => ?_) (fun h7 => ai (fun h8 => ai (fun h9 => ?_) (fun h9 => ?_)) (fun h8 => ?_))
     · refine aqy (m := m) (k := k) hB (by omega) (by omega) (N := N) (by omega) hk hL ht H hd fun lj dB ss' oN gT d' H' hx dz => aA ?_
       exact aC rfl (h _ _ _ _ _ _ (H'.le (by omega)) hx dz)
     · refine mG (m := m) (by omega) (jS (m := m) (n := 3) (by omega) (by omega) (by omega) hd fun j0 d0 Js E6 => ?_)
       refine w_num (m := m) (k := k) (by omega) (by omega) H.ot ?_
       refine rM (m := m) (k := k) (by omega) (by simp; omega) (.inl rfl) ?_
       refine yz (m := m) (k := k) (by omega) (by simp; omega) (.inl rfl) ?_
       have H2 := H.terms (M := N + 3) (dB := _) (by omega) (by simp; omega) (xY (x := ⟨1, [], (j0 : Int), [], -1, -1⟩) (y := ⟨0, [110], 0, [], -1, -1⟩) (c := 12) H.kT ⟨.inr (.inl rfl), rfl, rfl, jb⟩ ⟨.inl rfl, rfl, rfl, jb⟩ (.inr (.inr (.inr (.inl rfl)))) (.inl (show (1 : Int) ≠ 0 by decide)))
       refine wF (m := m) (k := k) (by omega) (by omega) H.os (by omega) (by omega) ?_
       refine jS (m := m) (n := (t.ms.map cM).length) (by omega) (by simp; omega) (by simp; omega) E6 fun j1 d1 xo cL => ?_
       refine jS (m := m) (n := (t.ms.map cM).length) (by omega) (by simp; omega) (by simp; omega) cL fun j2 d2 lr fh => ?_
       have H3 := H2.step (s := (⟨3, [], [], [], [], (((tm ++ [(⟨1, [], (j0 : Int), [], -1, -1⟩ : TM)] ++ [(⟨0, [110], 0, [], -1, -1⟩ : TM)]).length : Nat) : Int), true, [], true, [], .im true, [], -1⟩ : SR)) nR
       refine Uh (m := m) (k := k) hB (by omega) (by omega) (N := N + 3 + 1) (by omega) hk hL ht (by simpa using xo) H3 fh fun T3 TV nW R6 Dv d5 H5 ⟨y, hy, zL⟩ E7 => je ?_
       have eP : nW[ss.length]? = some (⟨3, [], [], [], [], (((tm ++ [(⟨1, [], (j0 : Int), [], -1, -1⟩ : TM)] ++ [(⟨0, [110], 0, [], -1, -1⟩ : TM)]).length : Nat) : Int), true, [], true, [], .im true, [], -1⟩ : SR) := by rw [hy]; exact BO
       refine aew (ss := nW) rfl rfl eP rfl ?_
       subst hy
       exact ae' (k := k) hB (by omega) (by omega) (N := N + 4 + 20 + Bd e) (by omega) hk hL ht (by simpa using lr) nR rfl rfl (H5.le (by omega)) E7 (fun lj dB ss' oN gT d' H' hx dz => h _ _ _ _ _ _ (H'.le (by omega)) hx dz)
     · refine jS (m := m) (n := (t.ms.map cM).length) (by omega) (by simp; omega) (by simp; omega) hd fun j1 d1 xo cL => ?_
       exact say j1 xo cL
     · refine jS (m := m) (n := (t.ms.map cM).length) (by omega) (by simp; omega) (by simp; omega) hd fun j1 d1 xo cL => ?_
       exact say j1 xo cL)
theorem VM:∀e,e≤5→uT e
 | 0,h=>VO 0 h (fun e' he=>by omega)
 | e+1,h=>VO (e+1) h (fun e' he=>by rw [show e'=e by omega];exact VM e (by omega))
end
end
section
open Go Go.ax QQ
def aU (n:Nat):List D:=[.int .i64 (n:Int)]
theorem gS:∀a:Nat,0+1≤(aU a).length∧dS bY (List.take 1 (List.drop 0 (aU a)))=some ((fun b=>((b:Int),())) a):=(fun a=>⟨by simp [aU],rfl⟩)
def gq (b:Bool):List D:=[.bool b]
theorem Dq:∀a:Bool,0+1≤(gq a).length∧dS [DS.bool] (List.take 1 (List.drop 0 (gq a)))=some ((fun b=>(b,())) a):=(fun a=>⟨by simp [gq],rfl⟩)
def xW (ps:List PT):Prop:=ps.length≤24∧∀p∈ps,p.ms.length≤10∧∀a∈p.ms,a.nx < ps.length
theorem GQ:∀l:List Nat,aW (l.map aU)=l.map aU
 | []=>rfl
 | a::t=>by simp only [fS,aW,GQ t];rfl
theorem count_set:∀(l:List Bool) (i:Nat),l[i]? = some false→(l.set i true).count true=l.count true+1
 | [],i,h=>by simp at h
 | a::t,0,h=>by
  simp at h;subst h;simp [UI]
 | a::t,i+1,h=>by
  simp at h;simp only [List.set_cons_succ,UI];rw [count_set t i (by simpa using h)];omega
theorem Mz {l:List Bool} {i:Nat} (h:i < l.length) {b:Bool}:bX (l.map gq) (0+i) 0 (.bool b)=(l.set i b).map gq:=by
 have:(l.map gq).getD (0+i) []=gq l[i]:=by simp [List.getD,h]
 unfold bX;rw [this,dc,AY];rfl
section
variable {m:Nat} {Q:V→List (List C)→Prop}
theorem Uj (hm:1≤m) {a b:BB} {c:Bool} {r:RR} {e:BB} {K:bj.T→OR} (h:Wp (K (a==e||b==e,())) Q):Wp (Ir (T m) a b c r e K) Q:=by
 obtain ⟨m,rfl⟩:=cG hm;refine bH ag4 (ai (fun h1=>aA ?_) (fun h1=>aA ?_))
 ·rw [h1] at h;exact aC rfl h
 ·rw [h1] at h;exact aC rfl h
theorem Tz (q:Nat) (met:List Bool) (hM:met.length≤100) {K:dh.T→OR} (h:∀b (l:List Nat),(∀x∈l,x < met.length)→l.length≤met.length→Wp (K ((b,l.map aU),())) Q) :
  ∀(c i:Nat) (l:List Nat),met.length - i < c→i≤met.length→(∀x∈l,x < met.length)→l.length≤i→Wp (Gh (T q) q c (met.map gq) (l.map aU) (i:Int)) (J dh K Q)
 | 0,i,l,hc,_,_,_=>by omega
 | c+1,i,l,hc,hi,hl,Y5=>by
  refine aD alV (ai (fun h1=>?_) (fun h1=>?_))
  ·have af:i < met.length:=bM h1;have hw:=wI i;refine nZ Dq rfl (gE af) (ai (fun h2=>?_) (fun h2=>?_))
   ·refine aE (hC (by simp;omega) (by omega)) ?_;rw [hw,dr];have:=Tz q met hM h c (i+1) (l++[i]) (by omega) (by omega) (by intro x hx;rw [dC] at hx;rcases hx with hx | hx;exact hl x hx;simp at hx;omega) (by simp;omega);rw [eg] at this;exact this
   ·rw [hw];exact Tz q met hM h c (i+1) l (by omega) (by omega) hl (by omega)
  ·refine aE (by simp) ?_;rw [dr,GQ];exact aA (aC rfl (h false l hl (by omega)))
theorem Ty (q:Nat) (met:List Bool) (hM:met.length≤100) {K:dh.T→OR} (h:∀b (l:List Nat),(∀x∈l,x < met.length)→l.length≤met.length→Wp (K ((b,l.map aU),())) Q) :
  ∀(c i:Nat),c≤q→met.length - i < c→i≤met.length→Wp (Gg (T q) q c (met.map gq) true [] (i:Int)) (J dh K Q)
 | 0,i,_,hc,_=>by omega
 | c+1,i,hq,hc,hi=>by
  refine aD alU (ai (fun h1=>?_) (fun h1=>?_))
  ·have af:i < met.length:=bM h1;have hw:=wI i;refine nZ Dq rfl (gE af) (ai (fun h2=>?_) (fun h2=>?_))
   ·refine aE rfl ?_;rw [hw];exact Tz q met hM h c (i+1) [i] (by omega) (by omega) (by intro x hx;simp at hx;omega) (by simp)
   ·rw [hw];exact Ty q met hM h c (i+1) (by omega) (by omega) (by omega)
  ·exact aA (aC rfl (h true [] (by intro x hx;cases hx) (by simp)))
theorem TA (q:Nat) (hq:100≤q) {ps:List PT} (hP:xW ps) (role:BB) (a1:au ec) (c1:Nat) (i:Nat) {p:PT} (hp:p∈ps)
  (hZ:∀(met:List Bool) (todo:List Nat),met.length=ps.length→todo.length=met.count true→(∀x∈todo,x < ps.length)→i < todo.length→Wp (CT (T q) q c1 role a1 (met.map gq) (todo.map aU) ((i+1:Nat):Int)) Q) :
  ∀(c j:Nat) (met:List Bool) (todo:List Nat),p.ms.length - j < c→j≤p.ms.length→met.length=ps.length→todo.length=met.count true→(∀x∈todo,x < ps.length)→i < todo.length→
   Wp (Gi (T q) q c1 c role a1 (met.map gq) (todo.map aU) (i:Int) (p.fr,p.to,(p.t,p.ms.map cM),()) (j:Int)) Q
 | 0,j,met,todo,hc,_,_,_,_,_=>by omega
 | c+1,j,met,todo,hc,hj,h1,h2,h3,h4=>by
  have dj:=(hP.2 p hp).1;have aR:met.count true≤met.length:=DV;have cY:=hP.1;have JM:=wI i;refine aD alZ (ai (fun g1=>?_) (fun g1=>?_))
  ·have af:j < p.ms.length:=bM g1;refine Uj (m:=q) (by omega) (ai (fun g2=>?_) (fun g2=>?_))
   ·obtain ⟨r,hr⟩:=bm 1 q;have e1:KM (T q) q c1 c q=KM (T q) q c1 c (r+1):=by rw [←hr]
    have hg:p.ms[j]? = some p.ms[j]:=gE af;have Ce:=(hP.2 p hp).2 _ (bL af);have ju:p.ms[j].nx < met.length:=by omega
    have ZB:=wI j;rw [e1];refine aD al0 ?_;refine aM yg rfl hg ?_;refine nZ Dq rfl (gE ju) (ai (fun g3=>?_) (fun g3=>?_))
    ·have xl:met[p.ms[j].nx]? = some false:=by
      rw [gE ju];have:met[p.ms[j].nx]=false:=by simpa using g3
      rw [this]
     refine aM yg rfl hg ?_;refine jd rfl (aE (bf (by simpa using ju)) (fU (b:=gq false) (by rw [dc,bO,xl];rfl) (aE rfl (iO (v:=(false,())) rfl ?_))));refine aM yg rfl hg (aE (hC (by simp;omega) (by omega)) ?_);rw [Mz ju,dr,ZB];have eE:=count_set met _ xl;have:=TA q hq hP role a1 c1 i hp hZ c (j+1) (met.set p.ms[j].nx true) (todo++[p.ms[j].nx]) (by omega) (by omega) (by simpa using h1) (by rw [eE];simp;omega)
      (by intro x hx;rw [dC] at hx;rcases hx with hx | hx;exact h3 x hx;simp at hx;omega) (by simp;omega)
     rw [eg] at this;exact this
    ·rw [ZB];exact TA q hq hP role a1 c1 i hp hZ c (j+1) met todo (by omega) (by omega) h1 h2 h3 h4
   ·rw [JM];exact hZ met todo h1 h2 h3 h4
  ·rw [JM];exact hZ met todo h1 h2 h3 h4
theorem adr (q:Nat) (hq:100≤q) {ps:List PT} (hP:xW ps) (role:BB) (nm:BB) (rs:Bool×RR) (pb:Bool) {K:dh.T→OR} (h:∀b (l:List Nat),(∀x∈l,x < ps.length)→l.length≤ps.length→Wp (K ((b,l.map aU),())) Q) :
  ∀(c i:Nat) (met:List Bool) (todo:List Nat),ps.length - i < c→i≤todo.length→met.length=ps.length→todo.length=met.count true→(∀x∈todo,x < ps.length)→
   Wp (CT (T q) q c role (nm,rs,(pb,ps.map cP),()) (met.map gq) (todo.map aU) (i:Int)) (J dh K Q)
 | 0,i,met,todo,hc,_,_,_,_=>by omega
 | c+1,i,met,todo,hc,hi,h1,h2,h3=>by
  have aR:met.count true≤met.length:=DV;have cY:=hP.1;refine aD alX (ai (fun g1=>?_) (fun g1=>?_))
  ·have af:i < todo.length:=bM g1;have hx:=h3 _ (bL af);refine nZ gS rfl (gE af) ?_;refine aM Dr rfl (gE hx) ?_;have hp:=(hP.2 _ (bL hx)).1;exact TA q hq hP role _ c i (bL hx) (fun met todo g1 g2 g3 g4=>adr q hq hP role nm rs pb h c (i+1) met todo (by omega) (by omega) g1 g2 g3) q 0 met todo (by omega) (by omega) h1 h2 h3 af
  ·have:=Ty q met (by omega) (by rw [h1];exact h) q 0 (by omega) (by omega) (by omega);exact this
theorem adt (q:Nat) (hq:100≤q) {ps:List PT} (hP:xW ps) (role:BB) (nm:BB) (rs:Bool×RR) (pb fb:Bool) (fr:List Nat) (hf:fr.length≤50) {K:dh.T→OR} (h:∀b (l:List Nat),(∀x∈l,x < ps.length)→l.length≤ps.length→Wp (K ((b,l.map aU),())) Q) :
  ∀(c i:Nat) (met:List Bool) (todo:List Nat),fr.length - i < c→i≤fr.length→met.length=ps.length→todo.length=met.count true→(∀x∈todo,x < ps.length)→
   Wp (Rr (T q) q c role fb (fr.map aU) (nm,rs,(pb,ps.map cP),()) (met.map gq) (todo.map aU) (i:Int)) (J dh K Q)
 | 0,i,met,todo,hc,_,_,_,_=>by omega
 | c+1,i,met,todo,hc,hi,h1,h2,h3=>by
  have aR:met.count true≤met.length:=DV;have cY:=hP.1;obtain ⟨r,hr⟩:=bm 1 q;refine aD al2 (ai (fun g1=>?_) (fun g1=>?_))
  ·have af:i < fr.length:=bM g1;have hw:=wI i;have hg:fr[i]? = some fr[i]:=gE af;have e1:sO (T q) q c q=sO (T q) q c (r+1):=by rw [←hr]
   have eK:∀(met:List Bool) (todo:List Nat),met.length=ps.length→todo.length=met.count true→(∀x∈todo,x < ps.length)→Wp (sO (T q) q c q role fb (fr.map aU) (nm,rs,(pb,ps.map cP),()) (met.map gq) (todo.map aU) (i:Int)) (J dh K Q):=by
    intro met todo k1 k2 k3;rw [e1];refine aD aaj ?_;rw [hw];exact adt q hq hP role nm rs pb fb fr hf h c (i+1) met todo (by omega) (by omega) k1 k2 k3
   refine aM gS rfl hg (ai (fun g2=>?_) (fun g2=>?_))
   ·refine aM gS rfl hg (ai (fun g3=>?_) (fun g3=>?_))
    ·have ju:fr[i] < met.length:=bM g3;refine aM gS rfl hg ?_;refine nZ Dq rfl (gE ju) (ai (fun g4=>?_) (fun g4=>?_))
     ·have xl:met[fr[i]]? = some false:=by
       rw [gE ju];have:met[fr[i]]=false:=by simpa using g4
       rw [this]
      refine aM gS rfl hg ?_;refine jd rfl (aE (bf (by simpa using ju)) (fU (b:=gq false) (by rw [dc,bO,xl];rfl) (aE rfl (iO (v:=(false,())) rfl ?_))));refine aM gS rfl hg (aE (hC (by simp;omega) (by omega)) ?_);rw [Mz ju,dr];have eE:=count_set met _ xl;have:=eK (met.set fr[i] true) (todo++[fr[i]]) (by simpa using h1) (by rw [eE];simp;omega) (by intro x hx;rw [dC] at hx;rcases hx with hx | hx;exact h3 x hx;simp at hx;omega);rw [eg] at this;exact this
     ·exact eK met todo h1 h2 h3
    ·exact eK met todo h1 h2 h3
   ·exact eK met todo h1 h2 h3
  ·exact adr q hq hP role nm rs pb h q 0 met todo (by omega) (by omega) h1 h2 h3
theorem ads (q:Nat) (hq:100≤q) {ps:List PT} (hP:xW ps) (role:BB) (nm:BB) (rs:Bool×RR) (pb fb:Bool) (fr:List Nat) (hf:fr.length≤50) (met:List Bool) (h1:met.length=ps.length) (h2:met.count true=0) {K:dh.T→OR} (h:∀b (l:List Nat),(∀x∈l,x < ps.length)→l.length≤ps.length→Wp (K ((b,l.map aU),())) Q) :
  ∀(c i:Nat),c≤q→fr.length - i < c→i≤fr.length→
   Wp (KN (T q) q c role fb (fr.map aU) (nm,rs,(pb,ps.map cP),()) (met.map gq) true [] (i:Int)) (J dh K Q)
 | 0,i,_,hc,_=>by omega
 | c+1,i,E5,hc,hi=>by
  have cY:=hP.1;obtain ⟨r,hr⟩:=bm 1 q;refine aD al1 (ai (fun g1=>?_) (fun g1=>?_))
  ·have af:i < fr.length:=bM g1;have hw:=wI i;have hg:fr[i]? = some fr[i]:=gE af;have e1:sO (T q) q c q=sO (T q) q c (r+1):=by rw [←hr]
   have e2:Aa (T q) q c q=Aa (T q) q c (r+1):=by rw [←hr]
   have eK:Wp (Aa (T q) q c q role fb (fr.map aU) (nm,rs,(pb,ps.map cP),()) (met.map gq) true [] (i:Int)) (J dh K Q):=by
    rw [e2];refine aD al3 ?_;rw [hw];exact ads q hq hP role nm rs pb fb fr hf met h1 h2 h c (i+1) (by omega) (by omega) (by omega)
   refine aM gS rfl hg (ai (fun g2=>?_) (fun g2=>eK));refine aM gS rfl hg (ai (fun g3=>?_) (fun g3=>eK));have ju:fr[i] < met.length:=bM g3;refine aM gS rfl hg ?_;refine nZ Dq rfl (gE ju) (ai (fun g4=>?_) (fun g4=>eK));have xl:met[fr[i]]? = some false:=by
    rw [gE ju];have:met[fr[i]]=false:=by simpa using g4
    rw [this]
   refine aM gS rfl hg ?_;refine jd rfl (aE (bf (by simpa using ju)) (fU (b:=gq false) (by rw [dc,bO,xl];rfl) (aE rfl (iO (v:=(false,())) rfl ?_))));refine aM gS rfl hg (aE rfl ?_);rw [Mz ju,e1];refine aD aaj ?_;rw [hw];have eE:=count_set met _ xl;exact adt q hq hP role nm rs pb fb fr hf h c (i+1) (met.set fr[i] true) [fr[i]] (by omega) (by omega) (by simpa using h1) (by rw [eE,h2];simp) (by intro x hx;simp at hx;omega)
  ·have e3:KL (T q) q q=KL (T q) q (r+1):=by rw [←hr]
   rw [e3];refine aD alW (eH rfl ?_);exact Ty q met (by omega) (by rw [h1];exact h) q 0 (by omega) (by omega) (by omega)
theorem aep (hm:110≤m) {ps:List PT} (hP:xW ps) {nm role:BB} {b1 b2 b3:Bool} {rs:RR} {fr:List Nat} (hf:fr.length≤50) {K:dh.T→OR} (h:∀b (l:List Nat),(∀x∈l,x < ps.length)→l.length≤ps.length→Wp (K ((b,l.map aU),())) Q) :
  Wp (N5 (T m) nm b1 rs b2 (ps.map cP) role b3 (fr.map aU) K) Q:=by
 obtain ⟨m,rfl⟩:=cG hm;have cY:=hP.1;refine bH ag2 (aE ?_ ?_)
 ·simp;omega
 ·have e1:List.replicate (ps.map cP).length [D.bool false]=(List.replicate ps.length false).map gq:=by simp [gq]
  rw [e1];exact ads m (by omega) hP role nm (b1,rs) b2 b3 fr hf _ (by simp) (by simp [UJ]) h m 0 (by omega) (by omega) (by omega)
end
end
end Go.Proofs.YtfmpdgeiodnnfaaGreatDoor
