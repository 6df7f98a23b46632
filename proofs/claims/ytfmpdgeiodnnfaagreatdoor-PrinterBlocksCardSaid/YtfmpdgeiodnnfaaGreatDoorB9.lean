/- A part of the proof. -/
import Derived.Test.YtfmpdgeiodnnfaaGreatDoorB1
import Derived.Test.YtfmpdgeiodnnfaaGreatDoorB5
import Derived.Test.YtfmpdgeiodnnfaaGreatDoorB6
import Derived.Test.YtfmpdgeiodnnfaaGreatDoorB7
import Derived.Test.YtfmpdgeiodnnfaaGreatDoorB8
import Derived.KernelRfl
import Derived.Test.YtfmpdgeiodnnfaaGreatDoorB3
set_option maxRecDepth 100000
set_option maxHeartbeats 1000000
set_option linter.all false
namespace Go.ax
section
theorem pI (n:Nat):ae n=(n:Int):=rfl
theorem ae4 (n:Nat):bY (n:Int)=some n:=by simp [bY]
theorem Ia {x:Int} (h:0≤x):bY x=some x.toNat:=by simp [bY,h]
theorem wrap_i64 {x:Int} (h : -9223372036854775808≤x) (h':x≤9223372036854775807):IntKind.wrap .i64 x=x:=by
 simp [IntKind.wrap,IntKind.signed,IntKind.bits];omega
section
variable (T:Nat→Option lj) (pK:bX)
def Vc (f:Nat) (vs:List V) (bs:List (List C)) (r:V×List (List C)):Prop:=∃N,∀n,N≤n→nH T pK n f vs bs=some r
theorem Vc.of {T:Nat→Option lj} {pK:bX} {f:Nat} {k:uS} {an:iP} {vs:List V} {bs:List (List C)} {r:V×List (List C)} (hT:T f=some k.fn)
  (h:∃N,∀n,N≤n→Ey an (nH T pK n) n k vs bs=some r):Vc T pK f vs bs r:=by
 obtain ⟨N,h⟩:=h;refine ⟨N+1,fun n hn=>?_⟩;cases n with
 | zero=>omega
 | succ n=>
  show (match T f with | some fn=>u6 (nH T pK n) n fn vs bs | none=>pK f vs bs)=some r;rw [hT];exact XM (h n (by omega))
end
end
end Go.ax
namespace Go.Proofs.YtfmpdgeiodnnfaaGreatDoor.PT
section
open Go Go.ax
abbrev BB:=List UInt8
abbrev RR:=List (List D)
inductive TT where
 | lf (k:Int) (nm:BB) (n:Int) (tx:BB)
 | un (k:Int) (a:TT)
 | bi (k:Int) (a b:TT)
def row (k:Int) (nm:BB) (n:Int) (tx:BB) (x y:Int):List D:=[.int .i64 k,.str nm,.int .i64 n,.str tx,.int .i64 x,.int .i64 y]
def TT.size:TT→Nat
 | .lf .. => 1
 | .un _ a=>a.size+1
 | .bi _ a b=>a.size+b.size+1
def TT.deep:TT→Nat
 | .lf .. => 1
 | .un _ a=>a.deep+1
 | .bi _ a b=>max a.deep b.deep+1
def TT.rows:TT→Nat→RR
 | .lf k nm n tx,_=>[row k nm n tx (-1) (-1)]
 | .un k a,b=>a.rows b++[row k [] 0 [] ((b+a.size:Nat) - 1) (-1)]
 | .bi k a c,b=>a.rows b++c.rows (b+a.size)++[row k [] 0 [] ((b+a.size:Nat) - 1) ((b+a.size+c.size:Nat) - 1)]
def TT.at_ (l:RR):TT→Int→Prop
 | .lf k nm n tx,i=>∃j:Nat,i=j∧l[j]? = some (row k nm n tx (-1) (-1))
 | .un k a,i=>∃(j:Nat) (x:Int),i=j∧l[j]? = some (row k [] 0 [] x (-1))∧a.at_ l x
 | .bi k a c,i=>∃(j:Nat) (x y:Int),i=j∧l[j]? = some (row k [] 0 [] x y)∧a.at_ l x∧c.at_ l y
def rD (k:Int):BB:=
 if k=6 then [43] else if k=7 then [45] else if k=8 then [42] else if k=9 then [47] else if k=10 then [109,111,100] else if k=11 then [61,61] else if k=12 then [60]
 else if k=13 then [97,110,100] else if k=14 then [111,114] else []
def tM (k:Int):BB:=if k=16 then [108,101,110] else if k=17 then [97,116] else if k=18 then [112,117,115,104] else [106,111,105,110]
def xB (k:Int):Bool:=decide (6≤k)&&decide (k≤14)
end
end Go.Proofs.YtfmpdgeiodnnfaaGreatDoor.PT
namespace Go.Proofs.YtfmpdgeiodnnfaaGreatDoor
section
open Go Go.ax
section
variable {R:Type}
theorem IH (ds:List DS) (p:au ds):sc [ds] [bx ds p]=some (p,()):=by
 have h:=adY ds p;unfold T9 at h;simp only [sc,h]
theorem pS {vs:VS} {ds:List DS} {o:OR} {x:V} {v:vs.T} {p:au ds} {K:(RS.val vs [ds]).T→Option R} {z:Option R} (h:o=some (x,[bx ds p])) (hd:pn vs x=some v) (h2:K (v,p,())=z):aH (.val vs [ds]) o K=z:=by
 subst h;simp only [aH,ig,hd,IH];exact h2
theorem DH {vs:VS} {o:OR} {x:V} {v:vs.T} {K:(RS.val vs []).T→Option R} {z:Option R} (h:o=some (x,[])) (hd:pn vs x=some v) (h2:K (v,())=z):aH (.val vs []) o K=z:=by
 subst h;simp only [aH,ig,hd,sc];exact h2
theorem aqc {vs:List VS} {ds:List DS} {o:OR} {x:List V} {v:yK vs} {p:au ds} {K:(RS.aq vs [ds]).T→Option R} {z:Option R} (h:o=some (.aq x,[bx ds p])) (hd:yY vs x=some v) (h2:K (v,p,())=z):aH (.aq vs [ds]) o K=z:=by
 subst h;simp only [aH,ig,hd,IH];exact h2
theorem oc {o:OR} {b:Bool} {K:(RS.val (.one .bool) []).T→Option R} {z:Option R} (h:o=some (.one (bC b),[])) (h2:K (b,())=z):aH (.val (.one .bool) []) o K=z:=DH h rfl h2
theorem ap9 {o:OR} {b:Int} {K:(RS.val (.one (.int .i64)) []).T→Option R} {z:Option R} (h:o=some (.one (iC b),[])) (h2:K (b,())=z):aH (.val (.one (.int .i64)) []) o K=z:=DH h rfl h2
theorem tf {o:OR} {b:BB} {K:(RS.val (.one .str) []).T→Option R} {z:Option R} (h:o=some (.one (sC b),[])) (h2:K (b,())=z):aH (.val (.one .str) []) o K=z:=DH h rfl h2
theorem DG {k:Nat} {o:OR} {b:Bool} {l:RR} {K:(RS.val (.one (.im k)) []).T→Option R} {z:Option R} (h:o=some (.one (lC (.im b) k l),[])) (h2:K ((b,l),())=z):aH (.val (.one (.im k)) []) o K=z:=
 DH h (by simp [pn,u3,kq]) h2
theorem lX {ds:List DS} {o:OR} {b:Int} {p:au ds} {K:(RS.val (.one (.int .i64)) [ds]).T→Option R} {z:Option R} (h:o=some (.one (iC b),[bx ds p])) (h2:K (b,p,())=z):aH (.val (.one (.int .i64)) [ds]) o K=z:=pS h rfl h2
theorem aqa {ds:List DS} {o:OR} {b:BB} {p:au ds} {K:(RS.val (.one .str) [ds]).T→Option R} {z:Option R} (h:o=some (.one (sC b),[bx ds p])) (h2:K (b,p,())=z):aH (.val (.one .str) [ds]) o K=z:=pS h rfl h2
theorem adR {ds:List DS} {k:Nat} {o:OR} {b:Bool} {l:RR} {p:au ds} {K:(RS.val (.one (.im k)) [ds]).T→Option R} {z:Option R} (h:o=some (.one (lC (.im b) k l),[bx ds p])) (h2:K ((b,l),p,())=z):aH (.val (.one (.im k)) [ds]) o K=z:=
 pS h (by simp [pn,u3,kq]) h2
theorem T5 {ds:List DS} {o:OR} {p:au ds} {K:(RS.aq [] [ds]).T→Option R} {z:Option R} (h:o=some (.aq [],[bx ds p])) (h2:K ((),p,())=z):aH (.aq [] [ds]) o K=z:=aqc h rfl h2
theorem eg {b:Bool} {x z:Option R} (h:b=true) (h2:x=z):gd b x=z:=by subst h;exact h2
theorem dD {b:Bool} {x y z:R} (h:b=true) (h2:x=z):(bif b then x else y)=z:=by subst h;exact h2
theorem bU {b:Bool} {x y z:R} (h:b=false) (h2:y=z):(bif b then x else y)=z:=by subst h;exact h2
theorem qo {β:Type} {o:Option β} {b:β} {K:β→Option R} {z:Option R} (h:o=some b) (h2:K b=z):aD o K=z:=by subst h;exact h2
theorem H9 (n:Nat):bY (n:Int)=some n:=by unfold bY;simp
theorem Ia {z:Int} {n:Nat} (h:z=(n:Int)):bY z=some n:=by subst h;exact H9 n
theorem bI (n:Nat):ae n=(n:Int):=rfl
theorem uE {b:Bool} {f:Tag→Option R} {z:Option R} (h:f (.im b)=z):zZ (.im b) f=z:=h
theorem mG {f:Tag→Option R} {z:Option R} (h:f .own=z):zZ .own f=z:=h
theorem jo {n:Nat} {x z:Option R} (h:n≤100000000000000) (h2:x=z):aN n x=z:=by
 unfold aN;rw [show decide (n≤9223372036854775807)=true from aY (by omega)];exact h2
end
theorem yc {ds:List DS} {c n:Nat} {L:RR} {i:Nat} {r:List D} {v:au ds} {K:au ds→OR} {z:OR} (h:L[i]? = some r) (hl:c+n≤r.length) (hd:dV ds (List.take n (List.drop c r))=some v) (h2:K v=z):rA ds c n L i K=z:=by
 unfold rA;refine qo h ?_;rw [show decide (n≤(List.drop c r).length)=true from aY (by simp;omega)];simp only [HN,cA,hd];exact h2
theorem iI {ds:List DS} {c n:Nat} {L:RR} {x:Int} {i:Nat} {r:List D} {v:au ds} {K:au ds→OR} {z:OR} (hx:x=(i:Int)) (h:L[i]? = some r) (hl:c+n≤r.length) (hd:dV ds (List.take n (List.drop c r))=some v) (h2:K v=z):iR ds c n L x K=z:=by
 unfold iR;exact qo (Ia hx) (yc h hl hd h2)
theorem sK {ds:List DS} {c n:Nat} {L:RR} {x:Int} {i:Nat} {r:List D} {v:au ds} {K:au ds→OR} {z:OR} (hx:x=(i:Int)) (h:L[i]? = some r) (hl:c+n≤r.length) (hd:dV ds (List.take n (List.drop c r))=some v) (h2:K v=z):iV ds c n L x K=z:=by
 unfold iV;refine qo (Ia hx) (eg (aY (cw.1 h).1) (qo (b:=r) (by rw [db];exact h) (eg (aY hl) ?_)));simp only [cA,hd];exact h2
theorem DL {z:Int} (h0 : -9223372036854775808≤z) (h1:z≤9223372036854775807):ak z=z:=wrap_i64 h0 h1
theorem bm (k n:Nat) (h:k≤n:=by omega):∃r,n=r+k:=⟨n - k,by omega⟩
theorem cE {m k:Nat} (h:k≤m) (h0:0 < k:=by omega):∃j,m=j+1:=⟨m - 1,by omega⟩
theorem bN {A B:Type} {f:A→B} {l:List A} {i:Nat} (h:decide ((i:Int) < ae (l.map f).length)=true):i < l.length:=by
 have g:=tF h;rw [bI,cy] at g;omega
theorem gE {A:Type} {l:List A} {i:Nat} (h:i < l.length):l[i]? = some l[i]:=kf h
theorem gM {z:Int} {n:Nat} (h:z=n:=by omega) (hn:n≤1000000000000000000:=by omega):ak z=(n:Int):=by subst h;exact DL (by omega) (by omega)
theorem wI (i:Nat) (h:i+1≤1000000000000000000:=by omega):ak ((i:Int)+1)=((i+1:Nat):Int):=gM rfl h
theorem du (l:RR):whole l=l:=by unfold whole;simp
section
variable {R:Type}
theorem Av (b:Bool) (K:Bool×Unit→Option R):aH (.val (.one .bool) []) (some (.one (bC b),[])) K=K (b,()):=rfl
theorem wj (b:BB) (K:BB×Unit→Option R):aH (.val (.one .str) []) (some (.one (sC b),[])) K=K (b,()):=rfl
theorem oy {b:Bool} {x:Option R} (h:b=true):gd b x=x:=by subst h;rfl
theorem ew {b:Bool} {x y:R} (h:b=true):(bif b then x else y)=x:=by subst h;rfl
theorem dU {b:Bool} {x y:R} (h:b=false):(bif b then x else y)=y:=by subst h;rfl
theorem Mi {z:Int} {n:Nat} (K:Nat→Option R) (h:z=(n:Int)):aD (bY z) K=K n:=by subst h;rw [ae4];rfl
theorem qO {β:Type} {o:Option β} {b:β} (K:β→Option R) (h:o=some b):aD o K=K b:=by subst h;rfl
end
structure TK where
 k:Int
 s:BB
 a:Int
end
section
open Go Go.ax PT
def FQ (s:BB):Bool:=(s==[97,110,100])||((s==[97,115])||((s==[97,116])||((s==[98,111,111,108])||((s==[99,97,108,108])||((s==[99,104,97,110])||((s==[100,114,111,112])||((s==[101,108,115,101])||((s==[101,109,112,116,121])||((s==[101,110,100])||((s==[102,97,105,108])||((s==[102,97,108,115,101])||((s==[102,114,111,109])||((s==[104,101,97,114])||((s==[105,102])||((s==[105,110,116])||((s==[106,111,105,110])||((s==[108,101,110])||((s==[108,101,116])||((s==[108,105,115,116])||((s==[108,111,99,97,108])||((s==[108,111,115,116])||((s==[109,111,100])||((s==[110,111,116])||((s==[111,112,101,110])||((s==[111,114])||((s==[112,114,105,110,116])||((s==[112,114,111,99])||((s==[112,114,111,116,111,99,111,108])||((s==[112,117,115,104])||((s==[114,111,108,101,115])||((s==[115,97,121])||((s==[115,112,97,119,110])||((s==[115,116,111,112])||((s==[116,101,120,116])||((s==[116,111])||((s==[116,114,117,101])||((s==[117,110,105,116])||((s==[119,105,116,104])||false))))))))))))))))))))))))))))))))))))))
theorem ae7 (b c:Bool):(bif b then rT else some (.one (.d (.bool c)),[]))=(some (.one (.d (.bool (b||c))),[]):OR):=by cases b<;>rfl
theorem akk (n:Nat) (hn:2≤n) (s:BB):T n 116 [.one (sC s)] []=some (.one (bC (FQ s)),[]):=by
 obtain ⟨m,rfl⟩:=tE hn;refine af0 _ ?_;rw [akt];rw [show rF=(some (.one (.d (.bool false)),[]):OR) from rfl];simp only [ae7];rfl
def isLet (c:UInt8):Bool:=decide (97≤c.toNat)&&decide (c.toNat≤122)
def re (c:UInt8):Bool:=decide (48≤c.toNat)&&decide (c.toNat≤57)
theorem acD (x:Nat) (lo hi:Int):(bif decide (ae x≥lo) then (some (.one (bC (decide (ae x≤hi))),[]):OR) else rF)=some (.one (bC (decide (lo≤ae x)&&decide (ae x≤hi))),[]):=by
 by_cases h:lo≤ae x
 ·rw [ew (by simpa using h),aY h];rfl
 ·rw [dU (by simpa using h),bV h];rfl
theorem anI (c:UInt8):(decide ((97:Int)≤ae c.toNat)&&decide (ae c.toNat≤(122:Int)))=isLet c:=by
 unfold isLet;rw [pI];congr 1<;>exact U8.2 (by omega)
theorem afQ (c:UInt8):(decide ((48:Int)≤ae c.toNat)&&decide (ae c.toNat≤(57:Int)))=re c:=by
 unfold re;rw [pI];congr 1<;>exact U8.2 (by omega)
theorem abg (n:Nat) (hn:1≤n) (c:UInt8):T n 115 [.one (.d (.int .u8 (ae c.toNat)))] []=some (.one (bC (isLet c)),[]):=by
 obtain ⟨m,rfl⟩:=tE hn;refine af5 _ ?_;rw [←anI];exact acD _ _ _
theorem anY (n:Nat) (hn:1≤n) (c:UInt8):T n 117 [.one (.d (.int .u8 (ae c.toNat)))] []=some (.one (bC (re c)),[]):=by
 obtain ⟨m,rfl⟩:=tE hn;refine af4 _ ?_;rw [←afQ];exact acD _ _ _
end
section
open Go Go.ax PT
def qq (c:UInt8):Bool:=isLet c||re c
def gJ:BB→Bool
 | []=>false
 | c::r=>decide (r.length+1≤12)&&isLet c && !(FQ (c::r))&&r.all qq
theorem MY (i:Nat) (h:i < 1000000):ak ((i:Int)+1)=((i+1:Nat):Int):=by
 show IntKind.wrap .i64 _=_;rw [wrap_i64 (by omega) (by omega)];simp
theorem Gu (n:Nat) (hn:1≤n) (q:Nat) (s:BB) (hs:s.length < 100000):∀(k i:Nat),s.length - i < k→FU (T n) q k s (i:Int)=some (.one (bC ((s.drop i).all qq)),[])
 | 0,i,hk=>by omega
 | k+1,i,hk=>by
  rw [aku];by_cases h:i < s.length
  ·have hc:s[i]? = some s[i]:=gE h;have hd:s.drop i=s[i]::s.drop (i+1):=tA h;have ih:=Gu n hn q s hs k (i+1) (by omega);rw [hd,List.all_cons];generalize s[i]=c at hc hd;rw [ew (by simp [pI];omega),Mi _ rfl,qO _ hc,abg n hn,Av];dsimp only;cases hl:isLet c with
   | true=>
    rw [dU (show (!true)=false from rfl),MY i (by omega),ih];simp [qq,hl]
   | false=>
    rw [ew (show (!false)=true from rfl),Mi _ rfl,qO _ hc,anY n hn,Av];dsimp only;cases hg:re c with
    | true=>
     rw [dU (show (!true)=false from rfl),MY i (by omega),ih];simp [qq,hl,hg]
    | false=>
     rw [ew (show (!false)=true from rfl)];simp [qq,hl,hg]
  ·rw [dU (by simp [pI];omega),DP (by omega)];rfl
theorem vL (n:Nat) (hn:20≤n) (s:BB):T n 62 [.one (sC s)] []=some (.one (bC (gJ s)),[]):=by
 obtain ⟨m,rfl⟩:=bm 20 n;refine af1 _ ?_;cases s with
 | nil=>rfl
 | cons c r=>
  have h1:ae (c::r).length=((r.length+1:Nat):Int):=by simp [pI]
  rw [h1,dU (by simp;omega)];by_cases h:r.length+1≤12
  ·rw [dU (by simp;omega),qO (o:=(c::r)[Int.toNat 0]?) (b:=c) _ rfl,abg (m+19) (by omega),Av];dsimp only;rw [show gJ (c::r)=(decide (r.length+1≤12)&&isLet c && !(FQ (c::r))&&r.all qq) from rfl,aY h];cases hl:isLet c with
   | false=>rfl
   | true=>
    rw [dU (show (!true)=false from rfl),c116,akk (m+19) (by omega),Av];dsimp only;cases hk:FQ (c::r) with
    | true=>rfl
    | false=>
     rw [dU rfl,akv];rw [show (1:Int)=((1:Nat):Int) from rfl,Gu (m+19) (by omega) _ (c::r) (by simp;omega) _ _ (by simp;omega)];rfl
  ·rw [ew (by simp;omega)];rw [show gJ (c::r)=(decide (r.length+1≤12)&&isLet c && !(FQ (c::r))&&r.all qq) from rfl,bV h];rfl
end
section
open Go Go.ax PT
theorem Vm {n f:Nat} {vs:List V} {bs:List (List C)} {r:V×List (List C)} (ht:pQ f=none) (h:Ao f vs bs=some r):T (n+1) f vs bs=some r:=by
 unfold T;simp only [nH,ht];exact h
def Ly (k:Int) (nm:BB) (n:Int) (tx:BB):Prop:=
 (k=0∧gJ nm=true∧n=0∧tx=[])∨(k=1∧nm=[]∧tx=[]∧-9223372036854775808≤n∧n≤9223372036854775807)∨(k=2∧nm=[]∧tx=[]∧(n=0∨n=1))∨
  (k=3∧nm=[]∧n=0∧tx.length≤24)∨(k=4∧nm=[]∧n=0∧tx=[])∨(k=5∧nm=[]∧n=0∧tx=[])
def vT:TT→Prop
 | .lf k nm n tx=>Ly k nm n tx
 | .un k a=>(k=15∨k=16)∧vT a
 | .bi k a b=>(xB k=true∨k=17∨k=18∨k=19)∧vT a∧vT b
def yu (acc:Nat) (l:BB):Nat:=l.foldl (fun a c=>a * 10+(c.toNat - 48)) acc
theorem ad2:∀(l:BB) (acc:Nat),acc≤yu acc l
 | [],acc=>bT _
 | c::r,acc=>by
  have:=ad2 r (acc * 10+(c.toNat - 48));show acc≤yu (acc * 10+(c.toNat - 48)) r;omega
theorem abH:∀(l:BB) (acc:Nat),(∀c∈l,re c=true)→yu acc l≤9223372036854775808→Lib.parseUintM 18446744073709551615 acc l = .ok (yu acc l)
 | [],acc,_,_=>rfl
 | c::r,acc,hd,hv=>by
  have h1:=hd c (by simp);unfold re at h1;simp only [bK,fA] at h1;have h2:yu acc (c::r)=yu (acc * 10+(c.toNat - 48)) r:=rfl;have h3:=ad2 r (acc * 10+(c.toNat - 48));rw [h2] at hv ⊢;simp only [Lib.parseUintM];rw [aJ h1,aB (by omega),aB (by omega)];exact abH r _ (fun x hx=>hd x (by simp [hx])) hv
theorem MS (d:Nat) (h:d < 10):(UInt8.ofNat (48+d)).toNat=48+d:=by
 show (48+d) % 256=48+d;omega
theorem Ra (d:Nat) (h:d < 10):re (UInt8.ofNat (48+d))=true:=by
 unfold re;rw [MS d h];simp;omega
theorem yZ:∀(f u:Nat),u < 10 ^ (f+1)→(∀c∈ov f u,re c=true)∧yu 0 (ov f u)=u∧ov f u≠[]∧(ov f u).length≤f+1
 | 0,u,h=>by
  have h1:u < 10:=by simpa using h
  refine ⟨fun c hc=>?_,?_,by simp [ov],by simp [ov]⟩
  ·simp [ov] at hc;subst hc;have:=Ra u h1;simpa using this
  ·show 0 * 10+((UInt8.ofNat (48+u)).toNat - 48)=u;rw [MS u h1];omega
 | f+1,u,h=>by
  simp only [ov];by_cases h1:u < 10
  ·rw [aJ h1];refine ⟨fun c hc=>?_,?_,by simp,by simp⟩
   ·simp at hc;subst hc;have:=Ra u h1;simpa using this
   ·show 0 * 10+((UInt8.ofNat (48+u)).toNat - 48)=u;rw [MS u h1];omega
  ·rw [aB h1];have ih:=yZ f (u / 10) (by rw [U4] at h;omega);refine ⟨fun c hc=>?_,?_,by simp,by simp;omega⟩
   ·rw [dC] at hc;rcases hc with hc | hc
    ·exact ih.1 c hc
    ·rw [uK] at hc;subst hc;exact Ra (u % 10) (by omega)
   ·unfold yu at ih ⊢;rw [List.foldl_append,ih.2.1];show u / 10 * 10+((UInt8.ofNat (48+u % 10)).toNat - 48)=u;rw [MS (u % 10) (by omega)];omega
theorem Xp (f u:Nat) (h:u < 10 ^ (f+1)) (hu:u≤9223372036854775808):Lib.parseUintB 64 (ov f u) = .ok u:=by
 have h1:=yZ f u h;unfold Lib.parseUintB;rw [aB h1.2.2.1,show (2:Nat) ^ 64 - 1=18446744073709551615 by decide,abH _ _ h1.1 (by rw [h1.2.1];exact hu),h1.2.1]
theorem aoq {n:Int} (h0 : -9223372036854775808≤n) (h1:n≤9223372036854775807):Lib.parseIntB 64 (pG n) = .ok n:=by
 unfold pG;have e:(2:Nat) ^ (64 - 1)=9223372036854775808:=by decide
 have e2:(10:Nat) ^ (19+1)=100000000000000000000:=by decide
 by_cases h:n < 0
 ·rw [aJ h,Lib.parseIntB_minus,Xp 19 n.natAbs (by rw [e2];omega) (by omega)];simp only [Lib.signedC,e];rw [aB (by omega)];congr 1;omega
 ·rw [aB h];have hd:=yZ 19 n.toNat (by rw [e2];omega);have hn:=Xp 19 n.toNat (by rw [e2];omega) (by omega);cases hc:ov 19 n.toNat with
  | nil=>exact absurd hc hd.2.2.1
  | cons c r=>
   rw [hc] at hd hn;have h3:=hd.1 c (by simp);unfold re at h3;simp only [bK,fA] at h3;rw [Lib.parseIntB_plain 64 c r (by omega) (by omega),hn];simp only [Lib.signlessC,e];rw [aB (by omega)];congr 1;omega
theorem akf {n:Int} (h0 : -9223372036854775808≤n) (h1:n≤9223372036854775807):(pG n).length≤21:=by
 have e2:(10:Nat) ^ (19+1)=100000000000000000000:=by decide
 unfold pG;by_cases h:n < 0
 ·rw [aJ h];have:=(yZ 19 n.natAbs (by rw [e2];omega)).2.2.2;simp;omega
 ·rw [aB h];have:=(yZ 19 n.toNat (by rw [e2];omega)).2.2.2;omega
end
section
open Go Go.ax PT
def B3:BB:=[48,49,50,51,52,53,54,55,56,57,97,98,99,100,101,102]
def pA (v:Nat):UInt8:=B3.getD v 0
def qc (c:UInt8):BB:=if c.toNat=34∨c.toNat=92 then [92,c] else if c.toNat=10 then [92,110] else if c.toNat < 32∨126 < c.toNat then [92,120,pA (c.toNat / 16),pA (c.toNat % 16)] else [c]
def ya (s:BB):BB:=34::(s.flatMap qc++[34])
def gj:TT→BB
 | .lf k nm n tx=>if k=0 then nm else if k=1 then pG n else if k=2 then (if n=1 then [116,114,117,101] else [102,97,108,115,101])
  else if k=3 then ya tx else if k=4 then [101,109,112,116,121] else [117,110,105,116]
 | .un k a=>if k=15 then [40,110,111,116,32]++gj a++[41] else (tM k++[40])++gj a++[41]
 | .bi k a b=>if xB k=true then [40]++gj a++([32]++rD k++[32])++gj b++[41] else (tM k++[40])++gj a++[44,32]++gj b++[41]
theorem Vr {p:Nat→Bool} {N:Nat} (h:(List.range N).all p=true) (n:Nat) (hn:n < N):p n=true:=lI.1 h n (tD.2 hn)
def YT (n:Nat):Bool:=decide (bY ((ae n).fdiv ((2:Int) ^ min 4 IntKind.u8.bits))=some (n / 16))&&decide (B3[n / 16]? = some (pA (n / 16))) &&
 decide (B3[(w8 (ae (BitVec.ofInt IntKind.u8.bits (ae n) &&& BitVec.ofInt IntKind.u8.bits (15:Int)).toNat)).toNat]? = some (pA (n % 16)))
theorem ajm:(List.range 256).all YT=true:=by kernel_rfl
theorem ajn (c:UInt8):bY ((ae c.toNat).fdiv ((2:Int) ^ min 4 IntKind.u8.bits))=some (c.toNat / 16)∧B3[c.toNat / 16]? = some (pA (c.toNat / 16))∧
  B3[(w8 (ae (BitVec.ofInt IntKind.u8.bits (ae c.toNat) &&& BitVec.ofInt IntKind.u8.bits (15:Int)).toNat)).toNat]? = some (pA (c.toNat % 16)):=by
 have h:=Vr ajm c.toNat c.toNat_lt;unfold YT at h;simp only [bK,fA] at h;exact ⟨h.1.1,h.1.2,h.2⟩
theorem Hh (a b:BB):D.da (a++b)=D.da a++D.da b:=by unfold D.da;exact eB
theorem mF (a:BB):(D.da a).length=a.length:=by unfold D.da;exact cy _
theorem apT {a:BB} (h:a≠[]):(D.da a).isEmpty=false:=by cases a with | nil=>exact absurd rfl h | cons=>rfl
theorem DE:∀b:BB,kA (D.da b)=some b
 | []=>rfl
 | c::r=>by
  show (kA (D.da r)).map (UInt8.ofNat ((c.toNat:Int).toNat) :: ·)=some (c::r);rw [DE r];show some (UInt8.ofNat c.toNat::r)=some (c::r);rw [UInt8.ofNat_toNat]
theorem qgd (src:RR) (b:BB) (k:Nat) (hb:b≠[]) (hl:b.length+k≤100000000000000) :
  (fT 1 src (D.da b).isEmpty&&true&&true&&(D.da b).length==(D.da b).length&&true&&decide (((D.da b).length+k) * 1≤140737488355328))=true:=by
 rw [apT hb,mF,Nn,aY (by omega)];simp [fT]
theorem qg (b:BB) (k:Nat) (hl:b.length+k≤100000000000000):((D.da b).length==(D.da b).length&&true&&decide (((D.da b).length+k) * 1≤140737488355328))=true:=by
 rw [mF,Nn,aY (by omega)];rfl
theorem wgd (s b:BB) (hb:b≠[]) (hl:b.length+s.length≤100000000000000) :
  (fT 1 (D.da s) (D.da b).isEmpty&&true&&true&&(D.da b).length==(D.da b).length&&true&&decide (((D.da b).length+(D.da s).length) * 1≤140737488355328))=true:=by
 rw [mF s];exact qgd (D.da s) b s.length hb hl
theorem Gy (c:UInt8) (n:Nat):(ae c.toNat==(n:Int))=decide (c.toNat=n):=by
 rw [pI];by_cases h:c.toNat=n
 ·rw [h];simp
 ·rw [bV h];simp;omega
theorem aci (n q:Nat) (s:BB) (hs:s.length < 100000):∀(k i:Nat) (b:BB),s.length - i < k→b≠[]→b.length+4 * (s.length - i)+1≤100000000000000→
  FT (T n) (q+1) k s (D.da b) (i:Int)=some (.one (sC (b++(s.drop i).flatMap qc++[34])),[])
 | 0,i,b,hk,_,_=>by omega
 | k+1,i,b,hk,hb,hl=>by
  rw [akr];by_cases h:i < s.length
  ·have hc:s[i]? = some s[i]:=gE h;have hd:s.drop i=s[i]::s.drop (i+1):=tA h;have ih:=fun (x:BB) (hx:x.length≤4)=>aci n q s hs k (i+1) (b++x) (by omega) (by simp [hb]) (by simp;omega)
   rw [hd,HB];generalize s[i]=c at hc hd;have fin:∀(x:BB),x.length≤4→x=qc c→xE (T n) (q+1) k (q+1) s (D.da b++D.da x) (i:Int) =
     some (.one (sC (b++(qc c++(s.drop (i+1)).flatMap qc)++[34])),[]):=by
    intro x hx he;rw [aks];rw [MY i (by omega),←Hh,ih x hx,he];simp
   rw [ew (by simp [pI];omega),Mi _ rfl,qO _ hc];rw [show (ae c.toNat==(34:Int))=decide (c.toNat=34) from Gy c 34,show (ae c.toNat==(92:Int))=decide (c.toNat=92) from Gy c 92,show (ae c.toNat==(10:Int))=decide (c.toNat=10) from Gy c 10];by_cases h1:c.toNat=34
   ·rw [ew (aY h1)];refine (oy (qg b 2 (by omega))).trans ?_;exact fin [92,c] (by simp) (by unfold qc;rw [aJ (.inl h1)])
   ·rw [dU (bV h1)];by_cases h2:c.toNat=92
    ·rw [ew (aY h2)];refine (oy (qg b 2 (by omega))).trans ?_;exact fin [92,c] (by simp) (by unfold qc;rw [aJ (.inr h2)])
    ·rw [dU (bV h2)];by_cases h3:c.toNat=10
     ·rw [ew (aY h3)];refine (oy (qg b 2 (by omega))).trans ?_;exact fin [92,110] (by simp) (by unfold qc;rw [aB (by omega),aJ h3])
     ·rw [dU (bV h3)];obtain ⟨x1,x2,x3⟩:=ajn c;by_cases h4:c.toNat < 32
      ·rw [ew (aY (show ae c.toNat < (32:Int) by rw [pI];omega)),qO _ x1];refine (qO _ x2).trans ?_;refine (qO _ x3).trans ?_;refine (oy (qg b 4 (by omega))).trans ?_;exact fin [92,120,pA (c.toNat / 16),pA (c.toNat % 16)] (by simp) (by unfold qc;rw [aB (by omega),aB h3,aJ (.inl h4)])
      ·rw [dU (bV (show ¬ ae c.toNat < (32:Int) by rw [pI];omega))];by_cases h5:126 < c.toNat
       ·rw [ew (aY (show ae c.toNat > (126:Int) by rw [pI];omega)),qO _ x1];refine (qO _ x2).trans ?_;refine (qO _ x3).trans ?_;refine (oy (qg b 4 (by omega))).trans ?_;exact fin [92,120,pA (c.toNat / 16),pA (c.toNat % 16)] (by simp) (by unfold qc;rw [aB (by omega),aB h3,aJ (.inr h5)])
       ·rw [dU (bV (show ¬ ae c.toNat > (126:Int) by rw [pI];omega))];refine (oy (qg b 1 (by omega))).trans ?_;exact fin [c] (by simp) (by unfold qc;rw [aB (by omega),aB h3,aB (by omega)])
  ·rw [dU (by simp [pI];omega),DP (by omega)];refine (oy (qg b 1 (by omega))).trans ?_;refine (qO (b:=b++[34]) _ ?_).trans ?_
   ·exact (fX kA (Hh b [34]).symm).trans (DE _)
   ·simp
theorem aoP (n:Nat) (hn:2≤n) (s:BB) (hs:s.length+1 < n) (h2:s.length < 10000):T n 161 [.one (sC s)] []=some (.one (sC (ya s)),[]):=by
 obtain ⟨m,rfl⟩:=bm 2 n;refine afY _ ?_;have:=aci (m+1) m s (by omega) (m+1) 0 [34] (by omega) (by simp) (by simp;omega);exact (show FT (T (m+1)) (m+1) (m+1) s [[D.int .u8 34]] 0=_ from this).trans (by simp [ya])
def MK (b:BB):Tag×RR:=match b with | []=>(.im true,[]) | _=>(.own,D.da b)
abbrev bB (b:BB):au bl:=((),MK b,())
theorem rB (z:Int) (p:au bl) {R:Type} (K:(Int×Bool×Unit)×au bl×Unit→Option R):aH Tl (some (.aq [.one (iC z),.one .fS],[bx bl p])) K=K ((z,true,()),p,()):=by
 obtain ⟨u,⟨t,r⟩,u2⟩:=p;cases u;cases u2;rfl
theorem rC (p:au bl) {R:Type} (K:Unit×au bl×Unit→Option R):aH j8 (some (.aq [],[bx bl p])) K=K ((),p,()):=by
 obtain ⟨u,⟨t,r⟩,u2⟩:=p;cases u;cases u2;rfl
theorem cc' (n:Nat) (hn:1≤n) (p:au bl):T n 91 [pE] [bx bl p]=some (.aq [],[bx bl p]):=by
 obtain ⟨m,rfl⟩:=tE hn;refine Vm rfl ?_;obtain ⟨u,⟨t,r⟩,u2⟩:=p;cases u;cases u2;rfl
theorem rQ (n:Nat) (hn:2≤n) (s b:BB) (hl:b.length+s.length≤100000000000000):T n 35 [pE,.one (sC s)] [bx bl (bB b)]=some (.aq [.one (iC (s.length:Int)),.one .fS],[bx bl (bB (b++s))]):=by
 obtain ⟨m,rfl⟩:=tE hn;refine OY _ ?_;rw [c91,cc' (m+1) (by omega),rC];cases b with
 | nil=>
  dsimp only [MK,zZ];refine (oy ?_).trans ?_
  ·rw [mF,aY (by simp at hl;omega)];simp [fT]
  ·cases s with
   | nil=>rfl
   | cons c r=>rfl
 | cons c r=>
  dsimp only [MK,zZ];refine (oy ?_).trans ?_
  ·exact wgd s (c::r) (by simp) hl
  ·rw [←Hh];rfl
theorem akc (n:Nat) (hn:1≤n) {z:Int} (h0 : -9223372036854775808≤z) (h1:z≤9223372036854775807):T n 159 [.one (iC z),.one (iC 10)] []=some (.one (sC (pG z)),[]):=by
 obtain ⟨m,rfl⟩:=tE hn;refine Vm rfl ?_;show (if (10:Int)=10∧-9223372036854775808≤z∧z≤9223372036854775807 then some (V.one (.d (.str (pG z))),([]:List (List C))) else none)=_;rw [aJ ⟨rfl,h0,h1⟩]
theorem afe (n:Nat) (hn:2≤n) (b:Bool):T n 160 [.one (bC b)] []=some (V.one (sC (if b then [116,114,117,101] else [102,97,108,115,101])),[]):=by
 obtain ⟨m,rfl⟩:=tE hn;refine ahw _ (tf (b:=if b then [116,114,117,101] else [102,97,108,115,101]) (ahx _ ?_) rfl);cases b<;>rfl
theorem iA {k c:Int} {R:Type} {x y:R} (h:k≠c):(bif k==c then x else y)=y:=by rw [dU (by simpa using h)]
theorem anB (n:Nat) (hn:40≤n) {k:Int} {nm:BB} {z:Int} {tx:BB} (h:Ly k nm z tx) (x y:Int):T n 102 [.agg [iC k,sC nm,iC z,sC tx,iC x,iC y]] []=some (.one (sC (gj (.lf k nm z tx))),[]):=by
 obtain ⟨m,rfl⟩:=bm 40 n;refine agb _ ?_;rcases h with ⟨rfl,h,rfl,rfl⟩ | ⟨rfl,rfl,rfl,h,h'⟩ | ⟨rfl,rfl,rfl,h⟩ | ⟨rfl,rfl,rfl,h⟩ | ⟨rfl,rfl,rfl,rfl⟩ | ⟨rfl,rfl,rfl,rfl⟩
 ·rfl
 ·rw [dU (by decide),ew (by decide),c159,akc (m+39) (by omega) h h',wj];rfl
 ·rw [dU (by decide),dU (by decide),ew (by decide),c160,afe (m+39) (by omega),wj];rcases h with rfl | rfl<;>rfl
 ·rw [dU (by decide),dU (by decide),dU (by decide),ew (by decide),Wj,aoP (m+39) (by omega) tx (by omega) (by omega),wj];rfl
 ·rfl
 ·rfl
theorem SM (n:Nat) (hn:1≤n) (k:Int):T n 103 [.one (iC k)] []=some (.one (sC (rD k)),[]):=by
 obtain ⟨m,rfl⟩:=tE hn;refine agf _ ?_;unfold rD;repeat' split
 all_goals (try subst_vars)
 all_goals (first | rfl | (simp only [iA, *,ne_eq,Np,not_true_eq_false];done) | skip)
 all_goals (repeat (first | rw [iA (by assumption)] | rfl))
theorem abJ (n:Nat) (hn:1≤n) (k:Int):T n 104 [.one (iC k)] []=some (.one (sC (tM k)),[]):=by
 obtain ⟨m,rfl⟩:=tE hn;refine aga _ ?_;unfold tM;repeat' split
 all_goals (try subst_vars)
 all_goals (first | rfl | skip)
 all_goals (repeat (first | rw [iA (by assumption)] | rfl))
end
section
open Go Go.ax PT
theorem Pq {R:Type} {n:Nat} {x:Option R} (h:n≤9223372036854775807):aN n x=x:=by unfold aN;rw [aY h];rfl
theorem TT.yM {l:RR}:∀{t:TT} {i:Int},t.at_ l i→∃j:Nat,i=j
 | .lf ..,_,⟨j,h,_⟩=>⟨j,h⟩
 | .un ..,_,⟨j,_,h,_⟩=>⟨j,h⟩
 | .bi ..,_,⟨j,_,_,h,_⟩=>⟨j,h⟩
theorem ac8 (k:Int):(rD k).length≤3:=by
 unfold rD;repeat' split
 all_goals decide
theorem Iy (k:Int):(tM k).length≤4:=by
 unfold tM;repeat' split
 all_goals decide
theorem apv {k:Int} (h:xB k=true):(rD k==[])=false:=by
 unfold xB at h;simp only [bK,fA] at h;have:k=6∨k=7∨k=8∨k=9∨k=10∨k=11∨k=12∨k=13∨k=14:=by omega
 rcases this with rfl | rfl | rfl | rfl | rfl | rfl | rfl | rfl | rfl<;>rfl
section
variable (x0:Bool) (l:RR)
theorem Mh:∀(t:TT),vT t→∀(i:Int),t.at_ l i→∀n,60 * t.size≤n→∀b:BB,b.length+(gj t).length≤100000000000000→
  T n 50 [pE,.one (lC (.im x0) 6 l),.one (iC i)] [bx bl (bB b)]=some (.aq [],[bx bl (bB (b++gj t))])
 | .lf k nm z tx,h,i,⟨j,hi,hr⟩,n,hn,b,hb=>by
  have hn:60≤n:=hn;obtain ⟨m,rfl⟩:=bm 60 n;refine OU _ ?_;refine iI (v:=(k,nm,z,tx,-1,-1,())) hi hr (bT 6) rfl ?_;dsimp only;rw [ew (aY (show (-1:Int) < 0 by omega)),V9,anB (m+59) (by omega) h,wj];dsimp only;rw [dv,rQ (m+59) (by omega) _ _ hb,rB];rfl
 | .un k a,h,i,⟨j,x,hi,hr,ha⟩,n,hn,b,hb=>by
  have ih:=Mh a h.2 x ha;have hn:60 * (a.size+1)≤n:=hn;obtain ⟨jx,hx⟩:=(TT.yM ha)
  have jY:¬ x < 0:=by omega
  obtain ⟨m,rfl⟩:=bm 60 n;refine OU _ ?_;refine iI (v:=(k,[],0,[],x,-1,())) hi hr (bT 6) rfl ?_;dsimp only;rw [dU (bV jY)];rcases h.1 with rfl | rfl
  ·have e:gj (.un 15 a)=[40,110,111,116,32]++gj a++[41]:=rfl;rw [e] at hb ⊢;simp only [eu,gk,jB] at hb;rw [ew (by decide),dv,rQ (m+59) (by omega) _ _ (by simp;omega),rB];dsimp only;rw [ew rfl,ki,ih (m+59) (by omega) _ (by simp;omega),rC];dsimp only;rw [dv,rQ (m+59) (by omega) _ _ (by simp;omega),rB];dsimp only;rw [ew rfl];simp only [ek]
  ·have e:gj (.un 16 a)=[108,101,110,40]++gj a++[41]:=rfl;rw [e] at hb ⊢;simp only [eu,gk,jB] at hb;rw [dU (by decide),Bb,SM (m+59) (by omega),wj];dsimp only;rw [dU (by decide),N3,abJ (m+59) (by omega),wj];dsimp only;refine (Pq (by have:=Iy 16;omega)).trans ?_;rw [show tM 16++[40]=[108,101,110,40] from rfl,dv,rQ (m+59) (by omega) _ _ (by simp;omega),rB];dsimp only;rw [ew rfl,ki,ih (m+59) (by omega) _ (by simp;omega),rC];dsimp only;rw [dU (bV (show ¬ (-1:Int)≥0 by omega)),dv,rQ (m+59) (by omega) _ _ (by simp;omega),rB];dsimp only;rw [ew rfl];simp only [ek]
 | .bi k a a',h,i,⟨j,x,y,hi,hr,ha,BS⟩,n,hn,b,hb=>by
  have ih:=Mh a h.2.1 x ha;have FK:=Mh a' h.2.2 y BS;have hn:60 * (a.size+a'.size+1)≤n:=hn;obtain ⟨jx,hx⟩:=(TT.yM ha)
  obtain ⟨jy,hy⟩:=(TT.yM BS)
  have jY:¬ x < 0:=by omega
  have hy0:y≥0:=by omega
  obtain ⟨m,rfl⟩:=bm 60 n;have ajw:k≠15:=by
   rintro rfl;rcases h.1 with h | h | h | h
   ·exact absurd h (by decide)
   ·cases h
   ·cases h
   ·cases h
  refine OU _ ?_;refine iI (v:=(k,[],0,[],x,y,())) hi hr (bT 6) rfl ?_;dsimp only;rw [dU (bV jY),iA ajw,Bb,SM (m+59) (by omega),wj];dsimp only;by_cases hk:xB k=true
  ·have e:gj (.bi k a a')=[40]++gj a++([32]++rD k++[32])++gj a'++[41]:=by simp only [gj,hk,bW]
   rw [e] at hb ⊢;have hs:=ac8 k;simp only [eu,gk,jB] at hb;rw [ew (by rw [apv hk];rfl),dv,rQ (m+59) (by omega) _ _ (by simp;omega),rB];dsimp only;rw [ew rfl,ki,ih (m+59) (by omega) _ (by simp;omega),rC];dsimp only;rw [Bb,SM (m+59) (by omega),wj];dsimp only;refine (oy (aY (show 1+(rD k).length≤9223372036854775807 by omega))).trans ?_;refine (Pq (show ([32]++rD k:BB).length+1≤9223372036854775807 by simp;omega)).trans ?_;rw [dv,rQ (m+59) (by omega) _ _ (by simp;omega),rB];dsimp only;rw [ew rfl,ki,FK (m+59) (by omega) _ (by simp;omega),rC];dsimp only;rw [dv,rQ (m+59) (by omega) _ _ (by simp;omega),rB];dsimp only;rw [ew rfl];simp only [ek]
  ·have e:gj (.bi k a a')=(tM k++[40])++gj a++[44,32]++gj a'++[41]:=by simp only [gj,hk,dE];rfl
   have iG:k=17∨k=18∨k=19:=by rcases h.1 with h | h;exact absurd h hk;exact h
   have hsg:rD k=[]:=by rcases iG with rfl | rfl | rfl<;>rfl
   rw [e] at hb ⊢;have hs:=Iy k;simp only [eu,gk,jB] at hb;rw [hsg,dU (by decide),N3,abJ (m+59) (by omega),wj];dsimp only;refine (Pq (by omega)).trans ?_;rw [dv,rQ (m+59) (by omega) _ _ (by simp;omega),rB];dsimp only;rw [ew rfl,ki,ih (m+59) (by omega) _ (by simp;omega),rC];dsimp only;rw [ew (aY hy0),dv,rQ (m+59) (by omega) _ _ (by simp;omega),rB];dsimp only;rw [ew rfl,ki,FK (m+59) (by omega) _ (by simp;omega),rC];dsimp only;rw [dv,rQ (m+59) (by omega) _ _ (by simp;omega),rB];dsimp only;rw [ew rfl];simp only [ek]
theorem sgd (b:BB) (hb:b≠[]) (hl:b.length≤100000000000000):((D.da b).length==(D.da b).length && !((D.da b).length==0)&&decide ((D.da b).length≤140737488355328))=true:=by
 rw [mF,Nn,aY (by omega)];cases b with
 | nil=>exact absurd rfl hb
 | cons=>rfl
theorem TY (n:Nat) (hn:1≤n) (b:BB) (hb:b≠[]) (hl:b.length≤100000000000000):T n 37 [pE] [bx bl (bB b)]=some (.one (sC b),[bx yo ((),(),())]):=by
 obtain ⟨m,rfl⟩:=tE hn;refine Xu _ ?_;cases b with
 | nil=>exact absurd rfl hb
 | cons c r=>
  dsimp only [MK,zZ];have h0:((D.da (c::r)).length==0)=false:=by rw [mF];rfl
  refine (oy (by rw [h0];rfl)).trans ?_;refine (oy (sgd (c::r) (by simp) hl)).trans ?_;exact (qO _ (DE (c::r))).trans rfl
theorem acA (s:BB) {R:Type} (K:BB×au yo×Unit→Option R):aH Tj (some (.one (sC s),[bx yo ((),(),())])) K=K (s,((),(),()),()):=rfl
theorem aqi:∀{t:TT},vT t→gj t≠[]
 | .lf k nm z tx,h=>by
  rcases h with ⟨rfl,h,rfl,rfl⟩ | ⟨rfl,rfl,rfl,h,h'⟩ | ⟨rfl,rfl,rfl,h⟩ | ⟨rfl,rfl,rfl,h⟩ | ⟨rfl,rfl,rfl,rfl⟩ | ⟨rfl,rfl,rfl,rfl⟩
  ·intro h1;have:nm=[]:=h1;subst this;cases h
  ·intro h1;have hp:=aoq h h';rw [show pG z=[] from h1] at hp;cases hp
  ·rcases h with rfl | rfl<;>simp [gj]
  ·simp [gj,ya]
  ·simp [gj]
  ·simp [gj]
 | .un k a,h=>by simp only [gj];split<;>simp
 | .bi k a b,h=>by simp only [gj];split<;>simp
theorem apZ {t:TT} (h:vT t) {i:Int} (ha:t.at_ l i) (hl:(gj t).length≤100000000000000) {n:Nat} (hn:60 * t.size+3≤n) (hM:∀k,n≤k+1→T k 25 [.one (lC (.im x0) 6 l),.one (iC i)] []=some (.one (bC true),[])) :
  T n 15 [.one (lC (.im x0) 6 l),.one (iC i)] []=some (.one (sC (gj t)),[]):=by
 have hp:=Mh x0 l t h i ha;obtain ⟨m,rfl⟩:=bm 1 n;refine Xs _ ?_;rw [Ek,hM m (bT _),Av];dsimp only;rw [dU (show (!true)=false from rfl)];have:=hp m (by omega) [] (by simpa using hl);rw [uL] at this;have e:(bx bl ((),((Tag.im true),[]),()))=bx bl (bB []):=rfl;rw [ki,e,this,rC];dsimp only;rw [c37,TY m (by omega) _ (aqi h) hl,acA]
end
end
section
open Go Go.ax PT
structure TR where
 k:Int
 nm:BB
 n:Int
 tx:BB
 x:Int
 y:Int
def cR (t:TR):List D:=row t.k t.nm t.n t.tx t.x t.y
def jj (k:Int):Int:=if k=0∨k=1∨k=2∨k=3∨k=4∨k=5 then 0 else if k=15∨k=16 then 1
 else if k=6∨k=7∨k=8∨k=9∨k=10∨k=11∨k=12∨k=13∨k=14∨k=17∨k=18∨k=19 then 2 else -1
def tQ (t:TR):Bool:=
 bif t.k==0 then (bif gJ t.nm then (bif t.n==0 then t.tx==[] else false) else false)
 else bif t.k==1 then (bif t.nm==[] then t.tx==[] else false)
 else bif t.k==2 then (bif t.nm==[] then (bif t.tx==[] then (bif t.n==0 then true else t.n==1) else false) else false)
 else bif t.k==3 then (bif t.nm==[] then (bif t.n==0 then decide (t.tx.length≤24) else false) else false)
 else (bif t.nm==[] then (bif t.n==0 then t.tx==[] else false) else false)
abbrev WF:=Nat→Int→List Bool→Bool×List Bool
def dh (rc:WF) (ops i to:Int) (a:Nat) (d:Int) (m:List Bool):Bool×List Bool:=
 bif decide (i≥ops) then (decide (to = -1),m) else bif decide (to < 0) then (false,m) else bif decide (to≥(a:Int)) then (false,m) else rc to.toNat (d+1) m
def AL (rc:WF) (l:List TR) (a:Nat) (d:Int) (m:List Bool):Bool×List Bool:=
 match l[a]? with
 | none=>(false,m)
 | some t=>
  bif m.getD a false then (false,m) else bif decide (d > 24) then (false,m) else bif decide (jj t.k < 0) then (false,m) else bif !(tQ t) then (false,m)
  else bif (dh rc (jj t.k) 0 t.x a d (m.set a true)).1 then dh rc (jj t.k) 1 t.y a d (dh rc (jj t.k) 0 t.x a d (m.set a true)).2 else (false,(dh rc (jj t.k) 0 t.x a d (m.set a true)).2)
def wk (l:List TR):Nat→WF
 | 0=>fun _ _ m=>(false,m)
 | f+1=>AL (wk l f) l
theorem aol (n:Nat) (hn:2≤n) (k:Int):T n 68 [.one (iC k)] []=some (.one (iC (jj k)),[]):=by
 obtain ⟨m,rfl⟩:=tE hn;refine ahC _ ?_;by_cases h0:k=0∨k=1∨k=2∨k=3∨k=4∨k=5
 ·rcases h0 with rfl | rfl | rfl | rfl | rfl | rfl<;>rfl
 by_cases h1:k=15∨k=16
 ·rcases h1 with rfl | rfl<;>rfl
 by_cases h2:k=6∨k=7∨k=8∨k=9∨k=10∨k=11∨k=12∨k=13∨k=14∨k=17∨k=18∨k=19
 ·rcases h2 with rfl | rfl | rfl | rfl | rfl | rfl | rfl | rfl | rfl | rfl | rfl | rfl<;>rfl
 rw [show jj k = -1 by unfold jj;rw [aB h0,aB h1,aB h2]];simp only [not_or] at h0 h1 h2;rw [iA h0.1,iA h0.2.1,iA h0.2.2.1,iA h0.2.2.2.1,iA h0.2.2.2.2.1,iA h0.2.2.2.2.2,iA h1.1,iA h1.2,iA h2.1,iA h2.2.1,iA h2.2.2.1,iA h2.2.2.2.1,iA h2.2.2.2.2.1,iA h2.2.2.2.2.2.1,iA h2.2.2.2.2.2.2.1,iA h2.2.2.2.2.2.2.2.1,iA h2.2.2.2.2.2.2.2.2.1,iA h2.2.2.2.2.2.2.2.2.2.1,iA h2.2.2.2.2.2.2.2.2.2.2.1,iA h2.2.2.2.2.2.2.2.2.2.2.2];rfl
theorem pg {b:Bool} {p q:OR} {x y:Bool} (h:p=some (.one (bC x),[])) (h':q=some (.one (bC y),[])):(bif b then p else q)=some (.one (bC (bif b then x else y)),[]):=by
 subst h h';cases b<;>rfl
theorem aiD (n:Nat) (hn:30≤n) (t:TR):T n 69 [.agg [iC t.k,sC t.nm,iC t.n,sC t.tx,iC t.x,iC t.y]] []=some (.one (bC (tQ t)),[]):=by
 obtain ⟨m,rfl⟩:=bm 30 n;refine ahB _ ?_;unfold tQ;rw [fE,vL (m+29) (by omega),Av];dsimp only;refine pg (pg (pg rfl rfl) rfl) (pg (pg rfl rfl) (pg (pg (pg (pg rfl rfl) rfl) rfl) (pg (pg (pg ?_ rfl) rfl) (pg (pg rfl rfl) rfl))));exact fX (fun b=>(some (V.one (bC b),[]):OR)) (U8.2 (show ae t.tx.length≤24↔t.tx.length≤24 by rw [pI];omega))
theorem apV {R:Type} (z:Bool) (K:au [.bool]→Option R):cA [.bool] (List.take 1 (List.drop 0 [.bool z])) K=K (z,()):=rfl
section
variable (x0:Bool) (l:List TR)
abbrev wT (x0:Bool) (l:List TR):au [.tg 6]:=((.im x0,l.map cR),())
abbrev tL (m:List Bool):au [.tg 1]:=((.own,m.map fun b=>[D.bool b]),())
abbrev wS:au kz:=((),())
theorem aoZ (b:Bool) (m:List Bool) {R:Type} (K:Bool×au [.tg 6]×au [.tg 1]×au kz×Unit→Option R) :
 aH G9 (some (.one (bC b),[bx [.tg 6] (wT x0 l),bx [.tg 1] (tL m),bx kz wS])) K=K (b,wT x0 l,tL m,wS,()):=rfl
abbrev NI (r:Bool×List Bool):OR:=some (.one (bC r.1),[bx [.tg 6] (wT x0 l),bx [.tg 1] (tL r.2),bx kz wS])
def HV (n:Nat) (rc:WF) (d:Int):Prop:=∀(c:Nat) (m:List Bool),c < l.length→m.length=l.length→
 T n 67 [.one (iC (c:Int)),.one (iC d),pE,.one (.ptr (.e 1) 0 0),.one (.ptr (.e 2) 0 0)] [bx [.tg 6] (wT x0 l),bx [.tg 1] (tL m),bx kz wS]=NI x0 l (rc c d m)
variable {x0 l}
theorem it (n q k:Nat) (rc:WF) (a:Nat) (d:Int) (hd : -1000 < d∧d < 1000) (hw:HV x0 l n rc (d+1)) (ha:a < l.length) {x2 x3 x4} (m:List Bool) (hm:m.length=l.length) (ops:Int) (L R:Int) (i:Nat) (to:Int)
  (hi:(i=0∧to=L)∨(i=1∧to=R)) :
  CW (T n) q x2 x3 x4 (k+1) (a:Int) d (wT x0 l) (tL m) wS ops [[.int .i64 L],[.int .i64 R]] 2 (i:Int) =
   bif (dh rc ops i to a d m).1 then CW (T n) q x2 x3 x4 k (a:Int) d (wT x0 l) (tL (dh rc ops i to a d m).2) wS ops [[.int .i64 L],[.int .i64 R]] 2 ((i+1:Nat):Int)
   else NI x0 l (false,(dh rc ops i to a d m).2):=by
 rw [aaw];have YY:i < 2:=by omega
 rw [ew (aY (by omega))];have hr:([[.int .i64 L],[.int .i64 R]]:RR)[i]? = some [.int .i64 to]:=by
  rcases hi with ⟨rfl,rfl⟩ | ⟨rfl,rfl⟩<;>rfl
 refine sK (v:=(to,())) rfl hr (bT 1) rfl ?_;dsimp only;have w1:ak ((i:Int)+1)=((i+1:Nat):Int):=MY i (by omega);rw [w1];unfold dh;by_cases h1:(i:Int)≥ops
 ·rw [ew (aY h1),ew (aY h1)];by_cases h2:to = -1
  ·subst h2;rw [dU (by decide)];rfl
  ·rw [ew (by simpa using h2),bV h2];rfl
 ·rw [dU (bV h1),dU (bV h1)];by_cases h2:to < 0
  ·rw [ew (aY h2),ew (aY h2)];rfl
  ·rw [dU (bV h2),dU (bV h2)];by_cases h3:to≥(a:Int)
   ·rw [ew (aY h3),ew (aY h3)];rfl
   ·rw [dU (bV h3),dU (bV h3)];have e1:ak (d+1)=d+1:=by show IntKind.wrap .i64 _=_;rw [wrap_i64 (by omega) (by omega)]
    have e2:to=((to.toNat:Nat):Int):=by omega
    have:=hw to.toNat m (by omega) hm;rw [←e2] at this;rw [e1];refine (fX (fun o=>aH G9 o _) this).trans ?_;rw [aoZ];dsimp only;cases (rc to.toNat (d+1) m).1<;>rfl
theorem TW {rc:WF} (hl:∀c d m,m.length=l.length→(rc c d m).2.length=l.length) (ops i to:Int) (a:Nat) (d:Int) (m:List Bool) (hm:m.length=l.length):(dh rc ops i to a d m).2.length=l.length:=by
 unfold dh;cases decide (i≥ops)
 ·cases decide (to < 0)
  ·cases decide (to≥(a:Int))
   ·exact hl _ _ _ hm
   ·exact hm
  ·exact hm
 ·exact hm
theorem aey:∀(f:Nat) (c:Nat) (d:Int) (m:List Bool),m.length=l.length→(wk l f c d m).2.length=l.length
 | 0,c,d,m,hm=>hm
 | f+1,c,d,m,hm=>by
  have ih:=aey f;show (AL (wk l f) l c d m).2.length=_;unfold AL;cases l[c]? with
  | none=>exact hm
  | some t=>
   dsimp only;cases m.getD c false with
   | true=>exact hm
   | false=>
    cases decide (d > 24) with
    | true=>exact hm
    | false=>
     cases decide (jj t.k < 0) with
     | true=>exact hm
     | false=>
      cases !(tQ t) with
      | true=>exact hm
      | false=>
       have h1:=TW ih (jj t.k) 0 t.x c d (m.set c true) (by simpa using hm);dsimp only [cond_false];cases (dh (wk l f) (jj t.k) 0 t.x c d (m.set c true)).1 with
       | true=>exact TW ih _ _ _ _ _ _ h1
       | false=>exact h1
theorem aeu:∀(f:Nat) (d:Int),1≤d→d≤25→26≤(f:Int)+d→∀n,60+f≤n→HV x0 l n (wk l f) d
 | 0,d,h1,h2,h3,n,hn=>by omega
 | f+1,d,h1,h2,h3,n,hn=>by
  intro a m ha hm;obtain ⟨n,rfl⟩:∃n',n=n'+60:=⟨n - 60,by omega⟩
  refine ahz _ ?_;have QP:l[a]? = some l[a]:=gE ha;generalize l[a]=t at QP;have Qu:m[a]? = some (m.getD a false):=by
   rw [kB,gE (by omega)];rfl
  refine uE (iI (v:=(t.k,t.nm,t.n,t.tx,t.x,t.y,())) rfl (show (l.map cR)[a]? = some (cR t) by rw [bS,QP];rfl) (bT 6) rfl ?_);dsimp only;refine ap9 (aol (n+59) (by omega) t.k) (mG (sK (v:=(m.getD a false,())) rfl (show (m.map fun b=>[D.bool b])[a]? = some [D.bool (m.getD a false)] by rw [bS,Qu];rfl) (bT 1) rfl ?_));dsimp only;show _=NI x0 l (AL (wk l f) l a d m);unfold AL;rw [QP];dsimp only;cases m.getD a false with
  | true=>rfl
  | false=>
   rw [cond_false,cond_false];by_cases g1:d > 24
   ·rw [ew (aY g1),ew (aY g1)]
   ·rw [dU (bV g1),dU (bV g1)];by_cases g2:jj t.k < 0
    ·rw [ew (aY g2),ew (aY g2)]
    ·rw [dU (bV g2),dU (bV g2),WI,aiD (n+59) (by omega),Av];dsimp only;cases tQ t with
     | false=>rfl
     | true=>
      rw [dU (show (!true)=false from rfl),dU (show (!true)=false from rfl),anj];dsimp only [zZ];rw [Mi _ rfl];refine (oy (aY (by rw [cy];omega))).trans ?_;refine (qO (b:=[D.bool (m.getD a false)]) _ (by rw [db,bS,Qu];rfl)).trans ?_;refine (oy rfl).trans ?_;rw [apV];have JE:cd (m.map fun b=>[D.bool b]) (0+a) 0 (D.bool true)=(m.set a true).map fun b=>[D.bool b]:=by
       unfold cd;rw [db,AW];congr 1;rw [kB,bS,Qu];rfl
      rw [JE];have hw:HV x0 l (n+59) (wk l f) (d+1):=aeu f (d+1) (by omega) (by omega) (by omega) (n+59) (by omega);have oJ:(m.set a true).length=l.length:=by simpa using hm
      have e0:=it (n+59) (n+59) (n+58) (wk l f) a d (by omega) hw ha (x2:=wT x0 l) (x3:=tL m) (x4:=wS) (m.set a true) oJ (jj t.k) t.x t.y 0 t.x (.inl ⟨rfl,rfl⟩);refine e0.trans ?_;have kx:=TW (aey f) (jj t.k) 0 t.x a d (m.set a true) oJ;rw [show ((0:Nat):Int)=0 from rfl] at *;generalize dh (wk l f) (jj t.k) 0 t.x a d (m.set a true)=r at kx ⊢;cases r.1 with
      | false=>rfl
      | true=>
       rw [HN,HN];have e1:=it (n+59) (n+59) (n+57) (wk l f) a d (by omega) hw ha (x2:=wT x0 l) (x3:=tL m) (x4:=wS) r.2 kx (jj t.k) t.x t.y 1 t.y (.inr ⟨rfl,rfl⟩);refine e1.trans ?_;rw [show ((1:Nat):Int)=1 from rfl];generalize pB:dh (wk l f) (jj t.k) 1 t.y a d r.2=r2;cases h:r2.1 with
       | false=>rw [cond_false];cases r2;subst h;rfl
       | true=>
        rw [HN,aaw];rw [dU (by decide)];cases r2;subst h;rfl
def sU (l:List TR) (root:Int):Bool:=decide (l.length≤160)&&(decide (0≤root)&&(decide (root < l.length)&&(wk l 25 root.toNat 1 (List.replicate l.length false)).1))
theorem aa3 (root:Int) (n:Nat) (hn:100≤n):T n 25 [.one (lC (.im x0) 6 (l.map cR)),.one (iC root)] []=some (.one (bC (sU l root)),[]):=by
 obtain ⟨n,rfl⟩:∃n',n=n'+100:=⟨n - 100,by omega⟩
 refine ahy _ ?_;unfold sU;rw [cy,pI];by_cases h1:l.length≤160
 ·rw [dU (bV (by omega)),aY h1];by_cases h2:0≤root
  ·rw [dU (bV (by omega)),aY h2];by_cases h3:root < l.length
   ·rw [dU (bV (by omega)),aY h3,ani];dsimp only [zZ];refine (oy ?_).trans ?_
    ·rw [cy,aY (bT _),aY (by omega),aY (by omega)];cases (l.length==0)<;>rfl
    ·have hw:HV x0 l (n+99) (wk l 25) 1:=aeu 25 1 (by omega) (by omega) (by omega) (n+99) (by omega);have h:=hw root.toNat (List.replicate l.length false) (by omega) (by simp);rw [show ((root.toNat:Nat):Int)=root by omega] at h;have e:tL (List.replicate l.length false)=((.own,List.replicate (l.map cR).length [D.bool false]),()):=by
      unfold tL;rw [List.map_replicate,cy]
     rw [e] at h;refine (fX (fun o=>aH G9 o _) h).trans ?_;rfl
   ·rw [ew (aY (by omega)),bV h3];rfl
  ·rw [ew (aY (by omega)),bV h2];rfl
 ·rw [ew (aY (by omega)),bV h1];rfl
end
end
section
open Go Go.ax PT
def Cn (t:TR):Prop:=-9223372036854775808≤t.n∧t.n≤9223372036854775807
theorem aon (k:Int):(jj k=0∧(k=0∨k=1∨k=2∨k=3∨k=4∨k=5))∨(jj k=1∧(k=15∨k=16))∨(jj k=2∧(xB k=true∨k=17∨k=18∨k=19))∨jj k = -1:=by
 unfold jj;by_cases h0:k=0∨k=1∨k=2∨k=3∨k=4∨k=5
 ·rw [aJ h0];exact .inl ⟨rfl,h0⟩
 ·rw [aB h0];by_cases h1:k=15∨k=16
  ·rw [aJ h1];exact .inr (.inl ⟨rfl,h1⟩)
  ·rw [aB h1];by_cases h2:k=6∨k=7∨k=8∨k=9∨k=10∨k=11∨k=12∨k=13∨k=14∨k=17∨k=18∨k=19
   ·rw [aJ h2];refine .inr (.inr (.inl ⟨rfl,?_⟩));unfold xB;simp only [bK,fA];omega
   ·rw [aB h2];exact .inr (.inr (.inr rfl))
theorem anJ {t:TR} (h0:t.k=0∨t.k=1∨t.k=2∨t.k=3∨t.k=4∨t.k=5) (hf:tQ t=true) (hr:Cn t):Ly t.k t.nm t.n t.tx:=by
 obtain ⟨k,nm,n,tx,x,y⟩:=t;unfold Cn at hr;simp only at h0 hr ⊢;unfold Ly;rcases h0 with rfl | rfl | rfl | rfl | rfl | rfl<;>simp [tQ,Bool.cond_eq_ite] at hf
 ·exact .inl ⟨rfl,hf⟩
 ·exact .inr (.inl ⟨rfl,hf.1,hf.2,hr⟩)
 ·exact .inr (.inr (.inl ⟨rfl,hf⟩))
 ·exact .inr (.inr (.inr (.inl ⟨rfl,hf⟩)))
 ·exact .inr (.inr (.inr (.inr (.inl ⟨rfl,hf⟩))))
 ·exact .inr (.inr (.inr (.inr (.inr ⟨rfl,hf⟩))))
theorem Yi {t:TR} (h0:¬ (t.k=0∨t.k=1∨t.k=2∨t.k=3)) (hf:tQ t=true):t.nm=[]∧t.n=0∧t.tx=[]:=by
 obtain ⟨k,nm,n,tx,x,y⟩:=t;simp only [not_or] at h0;unfold tQ at hf;simp only at hf h0 ⊢;rw [iA h0.1,iA h0.2.1,iA h0.2.2.1,iA h0.2.2.2] at hf;simp [Bool.cond_eq_ite] at hf;exact hf
def dP (m:List Bool):Nat:=m.count true
theorem afF (m:List Bool):dP m≤m.length:=HA
theorem Xa:∀(m:List Bool) (a:Nat),a < m.length→m.getD a false=false→dP (m.set a true)=dP m+1
 | [],a,h,_=>by simp at h
 | b::m,0,h,h'=>by
  have:b=false:=by simpa using h'
  subst this;simp [dP]
 | b::m,a+1,h,h'=>by
  have:=Xa m a (by simpa using h) (by simpa using h');simp only [dP,List.set_cons_succ,UN] at this ⊢;omega
theorem adE {rc:WF} {ops i to:Int} {a:Nat} {d:Int} {m:List Bool} (h:(dh rc ops i to a d m).1=true) :
  (i≥ops∧to = -1∧(dh rc ops i to a d m).2=m)∨(i < ops∧∃c:Nat,to=c∧c < a∧rc c (d+1) m=(true,(dh rc ops i to a d m).2)):=by
 unfold dh at h ⊢;by_cases h1:i≥ops
 ·rw [ew (aY h1)] at h ⊢;exact .inl ⟨h1,by simpa using h,rfl⟩
 ·rw [dU (bV h1)] at h ⊢;by_cases h2:to < 0
  ·rw [ew (aY h2)] at h;cases h
  ·rw [dU (bV h2)] at h ⊢;by_cases h3:to≥(a:Int)
   ·rw [ew (aY h3)] at h;cases h
   ·rw [dU (bV h3)] at h ⊢;refine .inr ⟨by omega,to.toNat,by omega,by omega,?_⟩;generalize rc to.toNat (d+1) m=r at h ⊢;cases r;subst h;rfl
theorem aez {l:List TR} (hr:∀t∈l,Cn t):∀(f a:Nat) (d:Int) (m m':List Bool),m.length=l.length→wk l f a d m=(true,m')→
  ∃t,vT t∧t.at_ (l.map cR) a∧(t.deep:Int)+d≤25∧m'.length=l.length∧dP m'=dP m+t.size
 | 0,a,d,m,m',hm,h=>by cases h
 | f+1,a,d,m,m',hm,h=>by
  have ih:=aez hr f;have h:AL (wk l f) l a d m=(true,m'):=h;unfold AL at h;cases ht:l[a]? with
  | none=>rw [ht] at h;cases h
  | some t=>
   rw [ht] at h;dsimp only at h;have B7:t∈l:=ft ht;have hla:a < l.length:=(cw.1 ht).1;have de:(l.map cR)[a]? = some (cR t):=by rw [bS,ht];rfl
   cases hg:m.getD a false with
   | true=>rw [hg] at h;cases h
   | false=>
    rw [hg,cond_false] at h;by_cases g1:d > 24
    ·rw [ew (aY g1)] at h;cases h
    rw [dU (bV g1)] at h;by_cases g2:jj t.k < 0
    ·rw [ew (aY g2)] at h;cases h
    rw [dU (bV g2)] at h;cases g3:tQ t with
    | false=>rw [g3] at h;cases h
    | true=>
     rw [g3,dU (show (!true)=false from rfl)] at h;have hs:=Xa m a (by omega) hg;have lu:(m.set a true).length=l.length:=by simpa using hm
     generalize m.set a true=m1 at h hs lu;cases g4:(dh (wk l f) (jj t.k) 0 t.x a d m1).1 with
     | false=>rw [g4] at h;cases h
     | true=>
      rw [g4,HN] at h;have i0:=adE g4;generalize (dh (wk l f) (jj t.k) 0 t.x a d m1).2=m2 at h i0;have i1:=adE (show (dh (wk l f) (jj t.k) 1 t.y a d m2).1=true by rw [h]);rw [h] at i1;rcases aon t.k with ⟨hk,iG⟩ | ⟨hk,iG⟩ | ⟨hk,iG⟩ | hk
      ·rw [hk] at i0 i1;rcases i0 with ⟨_,hx,rfl⟩ | ⟨h9,_⟩
       ·rcases i1 with ⟨_,hy,h8⟩ | ⟨h9,_⟩
        ·simp only at h8;subst h8;refine ⟨.lf t.k t.nm t.n t.tx,anJ iG g3 (hr t B7),⟨a,rfl,?_⟩,?_,lu,hs⟩
         ·rw [de];unfold cR;rw [hx,hy]
         ·show ((1:Nat):Int)+d≤25;omega
        ·omega
       ·omega
      ·rw [hk] at i0 i1;obtain ⟨e1,e2,e3⟩:=Yi (by omega) g3;rcases i0 with ⟨h9,_⟩ | ⟨_,c,hx,hc,q7⟩
       ·omega
       ·rcases i1 with ⟨_,hy,h8⟩ | ⟨h9,_⟩
        ·simp only at h8;subst h8;obtain ⟨t1,lU,A8,dp1,jH,c1⟩:=ih c (d+1) m1 m' lu q7;refine ⟨.un t.k t1,⟨iG,lU⟩,⟨a,t.x,rfl,?_,?_⟩,?_,jH,?_⟩
         ·rw [de];unfold cR;rw [hy,e1,e2,e3]
         ·rw [hx];exact A8
         ·show ((t1.deep+1:Nat):Int)+d≤25;omega
         ·show dP m'=dP m+(t1.size+1);omega
        ·omega
      ·rw [hk] at i0 i1;have hk3:¬ (t.k=0∨t.k=1∨t.k=2∨t.k=3):=by
        rcases iG with h | h | h | h
        ·unfold xB at h;simp only [bK,fA] at h;omega
        ·omega
        ·omega
        ·omega
       obtain ⟨e1,e2,e3⟩:=Yi hk3 g3;rcases i0 with ⟨h9,_⟩ | ⟨_,c,hx,hc,q7⟩
       ·omega
       ·rcases i1 with ⟨h9,_⟩ | ⟨_,c',hy,lM,ajT⟩
        ·omega
        ·obtain ⟨t1,lU,A8,dp1,jH,c1⟩:=ih c (d+1) m1 m2 lu q7;obtain ⟨t2,xQ,at2,dp2,dW,c2⟩:=ih c' (d+1) m2 m' jH ajT;refine ⟨.bi t.k t1 t2,⟨iG,lU,xQ⟩,⟨a,t.x,t.y,rfl,?_,?_,?_⟩,?_,dW,?_⟩
         ·rw [de];unfold cR;rw [e1,e2,e3]
         ·rw [hx];exact A8
         ·rw [hy];exact at2
         ·show ((max t1.deep t2.deep+1:Nat):Int)+d≤25;omega
         ·show dP m'=dP m+(t1.size+t2.size+1);omega
      ·omega
theorem anT {l:List TR} (hr:∀t∈l,Cn t) {root:Int} (h:sU l root=true):∃t,vT t∧t.at_ (l.map cR) root∧t.deep≤24∧t.size≤l.length:=by
 unfold sU at h;simp only [bK,fA] at h;obtain ⟨h1,h2,h3,h4⟩:=h;have h5:wk l 25 root.toNat 1 (List.replicate l.length false)=(true,(wk l 25 root.toNat 1 (List.replicate l.length false)).2):=by
  generalize wk l 25 root.toNat 1 (List.replicate l.length false)=r at h4 ⊢;cases r;subst h4;rfl
 obtain ⟨t,ok,A8,dp,hl,c⟩:=aez hr 25 root.toNat 1 _ _ (by simp) h5;have c0:dP (List.replicate l.length false)=0:=by simp [dP,List.count_replicate]
 have:=afF (wk l 25 root.toNat 1 (List.replicate l.length false)).2;rw [show ((root.toNat:Nat):Int)=root by omega] at A8;exact ⟨t,ok,A8,by omega,by omega⟩
end
section
open Go Go.ax PT
def Wp (o:OR) (Q:V→List (List C)→Prop):Prop:=∃v bs,o=some (v,bs)∧Q v bs
abbrev J (rs:RS) (K:rs.T→OR) (Q:V→List (List C)→Prop):V→List (List C)→Prop:=fun v bs=>Wp (aH rs (some (v,bs)) K) Q
section
variable {o x y:OR} {Q Q':V→List (List C)→Prop}
theorem aA {v:V} {bs:List (List C)} (h:Q v bs):Wp (some (v,bs)) Q:=⟨v,bs,rfl,h⟩
theorem aC (h:o=x) (h2:Wp x Q):Wp o Q:=h▸h2
theorem Wp.mono (h:Wp o Q) (h2:∀v bs,Q v bs→Q' v bs):Wp o Q':=by
 obtain ⟨v,bs,e,q⟩:=h;exact ⟨v,bs,e,h2 v bs q⟩
theorem aj {b:Bool} (h:b=true→Wp x Q) (h':b=false→Wp y Q):Wp (bif b then x else y) Q:=by
 cases b
 ·exact h' rfl
 ·exact h rfl
theorem fK {b:Bool} (hb:b=true) (h:Wp x Q):Wp (bif b then x else y) Q:=by subst hb;exact h
theorem dJ {b:Bool} (hb:b=false) (h:Wp y Q):Wp (bif b then x else y) Q:=by subst hb;exact h
theorem aF {b:Bool} (hb:b=true) (h:Wp x Q):Wp (gd b x) Q:=by subst hb;exact h
theorem cr {n:Nat} (hn:n≤9223372036854775807) (h:Wp x Q):Wp (aN n x) Q:=by
 unfold aN;rw [show decide (n≤9223372036854775807)=true from aY hn];exact h
theorem fq {β:Type} {a:Option β} {b:β} {K:β→OR} (ha:a=some b) (h:Wp (K b) Q):Wp (aD a K) Q:=by subst ha;exact h
theorem hC {z:Int} {n:Nat} {K:Nat→OR} (hz:z=(n:Int)) (h:Wp (K n) Q):Wp (aD (bY z) K) Q:=fq (Ia hz) h
theorem jb {f:Tag→OR} (h:Wp (f .own) Q):Wp (zZ .own f) Q:=h
theorem eZ {b:Bool} {f:Tag→OR} (h:Wp (f (.im b)) Q):Wp (zZ (.im b) f) Q:=h
theorem iN {ds:List DS} {l:List D} {v:au ds} {K:au ds→OR} (hd:dV ds l=some v) (h:Wp (K v) Q):Wp (cA ds l K) Q:=by
 simp only [cA,hd];exact h
theorem aM {X:Type} {ds:List DS} {c n:Nat} {L:List X} {enc:X→List D} {f:X→au ds} (hd:∀a,c+n≤(enc a).length∧dV ds (List.take n (List.drop c (enc a)))=some (f a)) {z:Int} {i:Nat} {K:au ds→OR} (hz:z=(i:Int)) {a:X} (ha:L[i]? = some a) (h:Wp (K (f a)) Q):Wp (iR ds c n (L.map enc) z K) Q:=
 aC (iI hz (r:=enc a) (by rw [bS,ha];rfl) (hd a).1 (hd a).2 rfl) h
theorem oe {X:Type} {ds:List DS} {c n:Nat} {L:List X} {enc:X→List D} {f:X→au ds} (hd:∀a,c+n≤(enc a).length∧dV ds (List.take n (List.drop c (enc a)))=some (f a)) {z:Int} {i:Nat} {K:au ds→OR} (hz:z=(i:Int)) {a:X} (ha:L[i]? = some a) (h:Wp (K (f a)) Q):Wp (iV ds c n (L.map enc) z K) Q:=
 aC (sK hz (r:=enc a) (by rw [bS,ha];rfl) (hd a).1 (hd a).2 rfl) h
end
end
end Go.Proofs.YtfmpdgeiodnnfaaGreatDoor
namespace Go.Proofs.YtfmpdgeiodnnfaaGreatDoor.QQ
section
open Go Go.ax
def bF (x:Int):List D:=[.int .i64 x]
theorem nV:∀a:Int,0+1≤(bF a).length∧dV cf (List.take 1 (List.drop 0 (bF a)))=some ((fun b=>(b,())) a):=(fun a=>⟨by simp [bF],rfl⟩)
def cQ (d:au ao):Prop:=∃(t:Tag) (l:List Int) (a:Nat),d=((t,l.map bF),(a:Int),())∧a≤l.length∧l.length≤100000000000000000
theorem ad4 {z:Int} {n:Nat} (h:z=n) (hn:n≤1000000000000000000):ak z=(n:Int):=by subst h;exact DL (by omega) (by omega)
theorem aov (x:Int) {k:Nat} (hk:1≤k) (ku:k≤1000000):iO (k:Int)=k∧∃j:Nat,ak ((iO x).tmod (iO (k:Int)))=j∧j < k:=by
 have hw:iO (k:Int)=k:=by
  show IntKind.wrap .u64 _=_;simp only [IntKind.wrap,IntKind.signed,IntKind.bits];simp;omega
 refine ⟨hw,?_⟩;rw [hw];have h0:0≤iO x:=by
  show 0≤IntKind.wrap .u64 _;simp only [IntKind.wrap,IntKind.signed,IntKind.bits];simp;omega
 have h1:(iO x).tmod (k:Int)=(iO x) % (k:Int):=UJ h0;rw [h1];have h2:=Int.emod_nonneg (iO x) (show (k:Int)≠0 by omega);have h3:=Int.emod_lt_of_pos (iO x) (show (0:Int) < k by omega);exact ⟨((iO x) % (k:Int)).toNat,by rw [DL (by omega) (by omega)];omega,by omega⟩
theorem pick (n:Nat) (hn:3≤n) {k:Nat} (hk:1≤k) (ku:k≤1000000) {d:au ao} (hd:cQ d) :
  ∃(j:Nat) (d':au ao),j < k∧cQ d'∧T n 73 [pE,.one (iC k)] [bx ao d]=some (.one (iC j),[bx ao d']):=by
 obtain ⟨m,rfl⟩:=bm 3 n;obtain ⟨t,l,a,rfl,ha,hl⟩:=hd;have nK:decide ((k:Int) < 1)=false:=bV (by omega);by_cases af:a < l.length
 ·have eV:decide ((a:Int)≥ae (l.map bF).length)=false:=bV (by rw [bI];simp;omega);obtain ⟨hw,j,hj,Y3⟩:=aov (l[a]) hk ku;have Zd:(!decide (iO (k:Int)=0))=true:=by rw [hw];simp;omega
  have hg:(l.map bF)[a]? = some [.int .i64 l[a]]:=by rw [bS,gE af];rfl
  have hs:ak ((a:Int)+1)=((a+1:Nat):Int):=ad4 (by omega) (by omega);have hx:ak (ak ((a:Int)+1) - 1)=(a:Int):=by rw [hs];exact ad4 (by omega) (by omega)
  cases t with
  | im b=>
   refine ⟨j,((.im b,l.map bF),((a+1:Nat):Int),()),Y3,⟨_,l,a+1,rfl,by omega,hl⟩,OV _ ?_⟩;refine bU nK (uE (bU eV ?_));rw [Z6];refine uE (iI (v:=(l[a],())) hx hg (by simp) rfl (eg Zd ?_));dsimp only;rw [hj,hs]
  | own=>
   refine ⟨j,((.own,l.map bF),((a+1:Nat):Int),()),Y3,⟨_,l,a+1,rfl,by omega,hl⟩,OV _ ?_⟩;refine bU nK (mG (bU eV ?_));rw [Z6];refine mG (sK (v:=(l[a],())) hx hg (by simp) rfl (eg Zd ?_));dsimp only;rw [hj,hs]
 ·have eV:decide ((a:Int)≥ae (l.map bF).length)=true:=aY (by rw [bI];simp;omega);refine ⟨0,((t,l.map bF),(a:Int),()),by omega,⟨t,l,a,rfl,ha,hl⟩,OV _ ?_⟩;refine bU nK ?_;cases t with
  | im b=>exact uE (dD eV rfl)
  | own=>exact mG (dD eV rfl)
end
section
open Go Go.ax
def qt:List BB:=[[119],[120],[121],[122],[111,107]]
def iS:List (Int×BB):=[(0,[]),(1,[]),(2,[]),(3,[]),(4,[]),(5,[112,46,97]),(5,[112,46,98]),(5,[112,46,99]),(5,[112,46,100]),(5,[113,46,97]),(5,[113,46,98]),(5,[113,46,99]),(5,[113,46,100])]
structure AM where
 mw:BB
 kd:Int
 nm:BB
 nx:Nat
def cM (a:AM):List D:=[.str a.mw,.int .i64 a.kd,.str a.nm,.int .i64 (a.nx:Int)]
theorem GY:∀a:AM,1+2≤(cM a).length∧dV kb (List.take 2 (List.drop 1 (cM a)))=some ((fun a=>(a.kd,a.nm,())) a):=(fun a=>⟨by simp [cM],rfl⟩)
theorem Dm:∀a:AM,0+1≤(cM a).length∧dV [DS.str] (List.take 1 (List.drop 0 (cM a)))=some ((fun a=>(a.mw,())) a):=(fun a=>⟨by simp [cM],rfl⟩)
theorem yd:∀a:AM,3+1≤(cM a).length∧dV cf (List.take 1 (List.drop 3 (cM a)))=some ((fun a=>((a.nx:Int),())) a):=(fun a=>⟨by simp [cM],rfl⟩)
def Al (P:Nat) (a:AM):Prop:=a.mw∈qt∧(a.kd,a.nm)∈iS∧a.nx < P
def nc (P:Nat) (l:List AM):Prop:=1≤l.length∧l.length≤3∧(l.map AM.mw).Nodup∧∀a∈l,Al P a
def gY (s:List BB):RR:=s.map fun x=>[.str x]
def nR (s:List BB):Prop:=s.length≤5∧∀x∈s,((5:Int),x)∈iS
theorem acG (n:Nat) (hn:1≤n):T n 48 [] []=some (.one (lC (.im false) 1 [[.str [97]],[.str [98]],[.str [99]],[.str [100]],[.str [101]]]),[]):=by
 obtain ⟨m,rfl⟩:=bm 1 n;exact agH _ rfl
theorem Lw (n:Nat) (hn:1≤n):T n 49 [] []=some (.one (lC (.im false) 1 [[.str [119]],[.str [120]],[.str [121]],[.str [122]]]),[]):=by
 obtain ⟨m,rfl⟩:=bm 1 n;exact agA _ rfl
theorem IG (n:Nat) (hn:4≤n) {d:au ao} (hd:cQ d):∃(k:Int) (d':au ao),(k,[])∈iS∧cQ d'∧T n 184 [pE] [bx ao d]=some (.agg [iC k,sC []],[bx ao d']):=by
 obtain ⟨m,rfl⟩:=bm 1 n;obtain ⟨j,d',hj,dq,e⟩:=pick m (by omega) (k:=6) (by omega) (by omega) hd;have hk:∃k:Int,([[.int .i64 1],[.int .i64 0],[.int .i64 1],[.int .i64 2],[.int .i64 3],[.int .i64 4]]:RR)[j]? = some [.int .i64 k]∧(k,([]:BB))∈iS:=by
  match j,hj with
  | 0,_=>exact ⟨1,rfl,by decide⟩
  | 1,_=>exact ⟨0,rfl,by decide⟩
  | 2,_=>exact ⟨1,rfl,by decide⟩
  | 3,_=>exact ⟨2,rfl,by decide⟩
  | 4,_=>exact ⟨3,rfl,by decide⟩
  | 5,_=>exact ⟨4,rfl,by decide⟩
 obtain ⟨k,hk,xn⟩:=hk;refine ⟨k,d',xn,dq,agj _ ?_⟩;refine lX e ?_;dsimp only;refine qo (H9 j) (eg (aY hj) (qo (b:=[.int .i64 k]) ?_ (eg rfl rfl)));rw [db];exact hk
theorem Oq (n:Nat) (hn:6≤n) (b:Bool) {s:List BB} (hs:nR s) {d:au ao} (hd:cQ d) :
  ∃(k:Int) (x:BB) (d':au ao),(k,x)∈iS∧cQ d'∧T n 128 [pE,.one (lC (.im b) 1 (gY s))] [bx ao d]=some (.agg [iC k,sC x],[bx ao d']):=by
 obtain ⟨m,rfl⟩:=bm 2 n;have hl:ae (gY s).length=(s.length:Int):=by rw [bI];simp [gY]
 by_cases h0:s.length=0
 ·obtain ⟨k,d2,hk,fk,e2⟩:=IG (m+1) (by omega) hd;refine ⟨k,[],d2,hk,fk,OW _ ?_⟩;refine bU (bV (by rw [hl];omega)) ?_;rw [aad];exact pS e2 rfl rfl
 ·have hp:decide (ae (gY s).length > 0)=true:=aY (by rw [hl];omega);obtain ⟨j,d1,hj,cJ,e1⟩:=pick (m+1) (by omega) (k:=4) (by omega) (by omega) hd;by_cases h1:j=1
  ·obtain ⟨i,d2,hi,fk,e2⟩:=pick (m+1) (by omega) (k:=s.length) (by omega) (by have:=hs.1;omega) cJ;refine ⟨5,s[i],d2,hs.2 _ (bM hi),fk,OW _ ?_⟩;refine dD hp (lX e1 ?_);dsimp only;refine dD (by subst h1;rfl) (lX (b:=(i:Int)) (p:=d2) (by rw [hl];exact e2) ?_);dsimp only;exact iI (v:=(s[i],())) (r:=[.str s[i]]) rfl (by simp [gY,hi]) (by simp) rfl rfl
  ·obtain ⟨k,d2,hk,fk,e2⟩:=IG (m+1) (by omega) cJ;refine ⟨k,[],d2,hk,fk,OW _ ?_⟩;refine dD hp (lX e1 ?_);dsimp only;refine bU (show ((j:Int)==1)=false from nE.2 (by omega)) ?_;rw [aad];exact pS e2 rfl rfl
def mz (q:Nat):BB:=[UInt8.ofNat (119+q % 4)]
theorem Lu (q:Nat):([[.str [119]],[.str [120]],[.str [121]],[.str [122]]]:RR)[q % 4]? = some [.str (mz q)]:=by
 unfold mz;have:q % 4 < 4:=DU _ (by omega);generalize q % 4=i at this;match i,this with
 | 0,_=>rfl
 | 1,_=>rfl
 | 2,_=>rfl
 | 3,_=>rfl
theorem Lv (q:Nat):mz q∈qt:=by
 unfold mz;have:q % 4 < 4:=DU _ (by omega);generalize q % 4=i at this;match i,this with
 | 0,_=>decide
 | 1,_=>decide
 | 2,_=>decide
 | 3,_=>decide
theorem aaA {q r:Nat} (h:mz q=mz r):q % 4=r % 4:=by
 unfold mz at h;have h1:q % 4 < 4:=DU _ (by omega);have h2:r % 4 < 4:=DU _ (by omega);generalize q % 4=i at *;generalize r % 4=j at *;match i,h1,j,h2 with
 | 0,_,0,_=>rfl
 | 1,_,1,_=>rfl
 | 2,_,2,_=>rfl
 | 3,_,3,_=>rfl
 | 0,_,1,_=>cases h
 | 0,_,2,_=>cases h
 | 0,_,3,_=>cases h
 | 1,_,0,_=>cases h
 | 1,_,2,_=>cases h
 | 1,_,3,_=>cases h
 | 2,_,0,_=>cases h
 | 2,_,1,_=>cases h
 | 2,_,3,_=>cases h
 | 3,_,0,_=>cases h
 | 3,_,1,_=>cases h
 | 3,_,2,_=>cases h
theorem adL (q:Nat):((q:Int)).tmod 4=((q % 4:Nat):Int):=by
 rw [UJ (by omega)];omega
theorem uB (l:RR) (x y:List D):l++[x].set 0 y=l++[y]:=rfl
theorem room {l:RR} {k:Nat} (h:l.length≤1000) (hk:k≤1000):(l.length==l.length&&true&&decide ((l.length+1) * k≤140737488355328))=true:=by
 have:(l.length+1) * k≤1001 * 1000:=U3 (by omega) hk;simp;omega
theorem abO:∀l:List AM,aW (l.map cM)=l.map cM
 | []=>rfl
 | a::t=>by
  simp only [gl,aW,abO t];rfl
theorem VE (m q:Nat) (hm:6≤m) (b:Bool) {s:List BB} (hs:nR s) (P:Nat) (hP:1≤P) (zn:P≤1000) (x3:au ao) (N fr:Nat) (hN:N≤3) (zx:fr < 4) :
  ∀(k i:Nat) (l:List AM) (d:au ao),N - i < k→i≤N→1≤i→l.length=i→(∀a∈l,Al P a)→l.map AM.mw=(List.range i).map (fun j=>mz (fr+j))→cQ d→
   ∃(l':List AM) (d':au ao),nc P l'∧cQ d'∧Kg (T m) q x3 k b (gY s) (P:Int) d (l.map cM) (N:Int) (fr:Int) (i:Int)=some (.one (lC (.im false) 4 (l'.map cM)),[bx ao d'])
 | 0,i,l,d,h,_,_,_,_,_,_=>by omega
 | k+1,i,l,d,h,hi,hi1,hl,aQ,Ju,hd=>by
  by_cases af:i < N
  ·obtain ⟨kd,x,d1,hc,cJ,e1⟩:=Oq m (by omega) b hs hd;obtain ⟨j,d2,hj,fk,e2⟩:=pick m (by omega) (k:=P) hP (by omega) cJ;obtain ⟨l',d',h1,h2,h3⟩:=VE m q hm b hs P hP zn x3 N fr hN zx k (i+1) (l++[⟨mz (fr+i),kd,x,j⟩]) d2 (by omega) (by omega) (by omega) (by simp [hl])
    (by intro a ha;rw [dC] at ha;rcases ha with ha | ha;exact aQ a ha;simp at ha;subst ha;exact ⟨Lv _,hc,hj⟩)
    (by rw [eB,Ju,Ni,eB];rfl) fk
   refine ⟨l',d',h1,h2,?_⟩;rw [aac];refine dD (aY (by omega)) (DG (Lw m (by omega)) ?_);dsimp only;have hw:ak ((fr:Int)+(i:Int))=((fr+i:Nat):Int):=gM;refine iI (i:=(fr+i) % 4) (v:=(mz (fr+i),())) (by rw [hw,adL]) (Lu _) (by simp) rfl ?_;dsimp only;refine pS e1 rfl ?_;dsimp only;refine lX e2 (eg (room (by simp;omega) (by omega)) ?_);dsimp only;rw [uB,wI i];rw [show List.map cM l++[[D.str (mz (fr+i)),D.int .i64 kd,D.str x,D.int .i64 (j:Int)]]=List.map cM (l++[⟨mz (fr+i),kd,x,j⟩]) by simp [cM]];exact h3
  ·obtain rfl:i=N:=by omega
   refine ⟨l,d,⟨by omega,by omega,?_,aQ⟩,hd,?_⟩
   ·rw [Ju];rw [List.nodup_iff_pairwise_ne,List.pairwise_map];refine List.Pairwise.imp_of_mem (R:=fun a b=>a < b) ?_ aeL;intro a c ha hc hac e;have:=aaA e;simp at ha hc;omega
   ·rw [aac];refine bU (bV (by omega)) (eg (aY (by omega)) ?_);rw [du,abO]
theorem ae3 (n:Nat) (hn:10≤n) (b:Bool) {s:List BB} (hs:nR s) (P:Nat) (hP:1≤P) (zn:P≤1000) {d:au ao} (hd:cQ d) :
  ∃(l:List AM) (d':au ao),nc P l∧cQ d'∧T n 74 [pE,.one (lC (.im b) 1 (gY s)),.one (iC P)] [bx ao d]=some (.one (lC (.im false) 4 (l.map cM)),[bx ao d']):=by
 obtain ⟨m,rfl⟩:=bm 2 n;obtain ⟨N,d1,hN,cJ,e1⟩:=pick (m+1) (by omega) (k:=3) (by omega) (by omega) hd;obtain ⟨fr,d2,zx,fk,e2⟩:=pick (m+1) (by omega) (k:=4) (by omega) (by omega) cJ;obtain ⟨kd,x,d3,hc,sA,e3⟩:=Oq (m+1) (by omega) b hs fk;obtain ⟨j,d4,hj,zu,e4⟩:=pick (m+1) (by omega) (k:=P) hP (by omega) sA;obtain ⟨l',d',h1,h2,h3⟩:=VE (m+1) (m+1) (by omega) b hs P hP zn d (N+1) fr (by omega) zx m 1 [⟨mz fr,kd,x,j⟩] d4 (by omega) (by omega) (by omega) rfl
  (by intro a ha;simp at ha;subst ha;exact ⟨Lv _,hc,hj⟩) rfl zu
 refine ⟨l',d',h1,h2,ags _ ?_⟩;refine lX e1 (lX e2 ?_);dsimp only;rw [akY];rw [show ak (1+(N:Int))=((N+1:Nat):Int) from gM];refine dD (aY (by omega)) (DG (Lw (m+1) (by omega)) ?_);dsimp only;have hw:ak ((fr:Int)+0)=(fr:Int):=gM;refine iI (i:=fr % 4) (v:=(mz fr,())) (by rw [hw,adL]) (Lu _) (by simp) rfl ?_;dsimp only;refine pS e3 rfl ?_;dsimp only;refine lX e4 (eg rfl ?_);exact h3
end
section
open Go Go.ax
variable {nm:BB}
def bJ (k:Nat):BB:=[UInt8.ofNat (97+k)]
def c8 (many:Nat):RR:=(List.range many).map fun k=>[.str (bJ k)]
structure PT where
 fr:BB
 to:BB
 t:Bool
 ms:List AM
def cP (p:PT):List D:=[.str p.fr,.str p.to,.sl (.im p.t) 4 (p.ms.map cM)]
theorem Mm:∀a:PT,2+1≤(cP a).length∧dV [DS.im 4] (List.take 1 (List.drop 2 (cP a)))=some ((fun p=>((p.t,p.ms.map cM),())) a):=(fun a=>⟨by simp [cP],rfl⟩)
theorem Dl:∀a:PT,0+3≤(cP a).length∧dV kZ (List.take 3 (List.drop 0 (cP a)))=some ((fun p=>(p.fr,p.to,(p.t,p.ms.map cM),())) a):=(fun a=>⟨by simp [cP],rfl⟩)
def rq (P many:Nat) (p:PT):Prop:=(p.fr=[]∧p.to=[]∧p.ms=[])∨∃k m,k < many∧m < many∧k≠m∧p.fr=bJ k∧p.to=bJ m∧nc P p.ms
def kU (many:Nat) (ps:List PT):Prop:=2≤many∧many≤4∧1≤ps.length∧ps.length≤8∧∀p∈ps,rq ps.length many p
theorem abR:∀l:List PT,aW (l.map cP)=l.map cP
 | []=>rfl
 | a::t=>by
  simp only [gl,aW,abR t];rfl
theorem SC:∀l:List BB,aW (l.map fun s=>[.str s])=l.map fun s=>[D.str s]
 | []=>rfl
 | a::t=>by
  simp only [gl,aW,SC t];rfl
theorem aoz (many:Nat):aW (c8 many)=c8 many:=by
 have:=SC ((List.range many).map bJ);rw [UW] at this;exact this
theorem pN (many:Nat):(c8 many).length=many:=by simp [c8]
theorem ao4 {many:Nat} (h:many≠0):c8 many≠[]:=by
 intro e;have:=fX List.length e;rw [pN] at this;exact h this
theorem nW {many k:Nat} (h:k < many):(c8 many)[k]? = some [.str (bJ k)]:=by simp [c8,h]
theorem g1 {r:RR} (h:r≠[]):(r.length==r.length && !r.isEmpty)=true:=by
 cases r with
 | nil=>exact absurd rfl h
 | cons=>simp
theorem g2 (r:RR):decide (0+r.length≤r.length)=true:=by simp
theorem ap2 {q k:Nat}:((q:Int)).tmod (k:Int)=((q % k:Nat):Int):=by
 rw [UJ (by omega)];omega
def nq (r:RR):Tag×RR:=(match r with | []=>.im true | _=>.own,r)
theorem adK (r:RR) (x:List D):nq (r++[x])=(.own,r++[x]):=by
 cases r<;>rfl
theorem Vt (m q:Nat) (hm:10≤m) (b:Bool) {s:List BB} (hs:nR s) (many N:Nat) (h2:2≤many) (h4:many≤4) (hN:N≤6) (hN1:1≤N) (x4:au ao) (z:au nk) :
  ∀(k i:Nat) (ps:List PT) (d:au ao),N - i < k→i≤N→ps.length=i→(∀p∈ps,rq (N+1) many p)→cQ d→
   ∃(Me:List PT) (d':au ao),kU many Me∧cQ d'∧Kf (T m) q x4 k (many:Int) b (gY s) d z (N:Int) (nm,(.own,c8 many),nq (ps.map cP),()) (i:Int) =
    some (.agg [sC nm,lC (.im false) 1 (c8 many),lC (.im false) 3 (Me.map cP)],[bx ao d'])
 | 0,i,ps,d,h,_,_,_,_=>by omega
 | k+1,i,ps,d,h,hi,hl,aQ,hd=>by
  have hz:(!decide ((many:Int)=0))=true:=by simp;omega
  by_cases af:i < N
  ·obtain ⟨j,d1,hj,cJ,e1⟩:=pick m (by omega) (k:=many) (by omega) (by omega) hd;obtain ⟨j2,d2,lp,fk,e2⟩:=pick m (by omega) (k:=many - 1) (by omega) (by omega) cJ;obtain ⟨ms,d3,B8,sA,e3⟩:=ae3 m (by omega) b hs (N+1) (by omega) (by omega) fk;have Fo:(j+1+j2) % many < many:=DU _ (by omega);have az:j≠(j+1+j2) % many:=by
    intro e;by_cases hq:j+1+j2 < many
    ·rw [HL hq] at e;omega
    ·rw [Nat.mod_eq_sub_mod (by omega),HL (by omega)] at e;omega
   obtain ⟨Me,d',px,ze,g3⟩:=Vt m q hm b hs many N h2 h4 hN hN1 x4 z k (i+1) (ps++[⟨bJ j,bJ ((j+1+j2) % many),false,ms⟩]) d3 (by omega) (by omega) (by simp [hl])
    (by intro a ha;rw [dC] at ha;rcases ha with ha | ha;exact aQ a ha;simp at ha;subst ha;exact .inr ⟨j,_,hj,Fo,az,rfl,rfl,B8⟩) sA
   refine ⟨Me,d',px,ze,?_⟩;rw [eB,show List.map cP [⟨bJ j,bJ ((j+1+j2) % many),false,ms⟩]=[cP ⟨bJ j,bJ ((j+1+j2) % many),false,ms⟩] from rfl,adK] at g3;rw [Z9];refine dD (aY (by omega)) (lX e1 ?_);dsimp only;rw [show ak ((many:Int) - 1)=((many - 1:Nat):Int) from gM];refine lX e2 (eg hz ?_);dsimp only;have hw:ak (ak ((j:Int)+1)+(j2:Int))=((j+1+j2:Nat):Int):=by rw [wI j];exact gM
   have hx:(ak (ak ((j:Int)+1)+(j2:Int))).tmod (many:Int)=(((j+1+j2) % many:Nat):Int):=by rw [hw,ap2]
   have mq:=wI N;have JJ:=wI i;cases ps with
   | nil=>
    refine uE (mG (sK (v:=(bJ j,())) rfl (nW hj) (by simp) rfl ?_));dsimp only;refine sK (v:=(bJ ((j+1+j2) % many),())) hx (nW Fo) (by simp) rfl ?_;dsimp only;rw [mq];refine adR e3 (eg rfl ?_);dsimp only;rw [JJ];exact g3
   | cons p ps=>
    refine mG (mG (sK (v:=(bJ j,())) rfl (nW hj) (by simp) rfl ?_));dsimp only;refine sK (v:=(bJ ((j+1+j2) % many),())) hx (nW Fo) (by simp) rfl ?_;dsimp only;rw [mq];refine adR e3 (eg (room (by simp only [nq,cy];omega) (by omega)) ?_);dsimp only;rw [JJ];exact g3
  ·obtain rfl:i=N:=by omega
   refine ⟨ps++[⟨[],[],true,[]⟩],d,⟨h2,h4,by simp,by simp;omega,?_⟩,hd,?_⟩
   ·intro p hp;rw [dC] at hp;rcases hp with hp | hp
    ·rw [eu,hl];exact aQ p hp
    ·simp at hp;subst hp;exact .inl ⟨rfl,rfl,rfl⟩
   ·rw [Z9];refine bU (bV (by omega)) ?_;cases ps with
    | nil=>simp at hl;omega
    | cons p ps=>
     refine mG (eg (room (by simp only [nq,cy];omega) (by omega)) (mG (eg (g1 (ao4 (by omega))) (eg (g1 (by simp [nq])) (eg (g2 _) (eg (g2 _) ?_))))));simp only [zB,zW,zM,du,aoz];rw [uB,show ([D.str [],D.str [],D.sl (.im true) 4 []]:List D)=cP ⟨[],[],true,[]⟩ from rfl];rw [show (nq (List.map cP (p::ps))).2++[cP ⟨[],[],true,[]⟩]=List.map cP (p::ps++[⟨[],[],true,[]⟩]) by simp [nq],abR]
theorem adI {many:Nat} (h2:2≤many) (h4:many≤4):List.take (many - 0) (List.drop 0 ([[.str [97]],[.str [98]],[.str [99]],[.str [100]],[.str [101]]]:RR))=c8 many:=by
 match many,h2,h4 with
 | 2,_,_=>rfl
 | 3,_,_=>rfl
 | 4,_,_=>rfl
theorem NJ (n:Nat) (hn:20≤n) (b:Bool) {s:List BB} (hs:nR s) (many:Nat) (h2:2≤many) (h4:many≤4) {d:au ao} (hd:cQ d) :
  ∃(ps:List PT) (d':au ao),kU many ps∧cQ d'∧T n 138 [pE,.one (sC nm),.one (iC many),.one (lC (.im b) 1 (gY s))] [bx ao d] =
   some (.agg [sC nm,lC (.im false) 1 (c8 many),lC (.im false) 3 (ps.map cP)],[bx ao d']):=by
 obtain ⟨m,rfl⟩:=bm 2 n;obtain ⟨N,d1,hN,cJ,e1⟩:=pick (m+1) (by omega) (k:=6) (by omega) (by omega) hd;obtain ⟨ps,d',g1,g2,g3⟩:=Vt (nm:=nm) (m+1) (m+1) (by omega) b hs many (N+1) h2 h4 (by omega) (by omega) d ([],((.im true),[]),((.im true),[]),()) (m+1) 0 [] d1 (by omega) (by omega) rfl (by intro p hp;cases hp) cJ;refine ⟨ps,d',g1,g2,agr _ ?_⟩;refine lX e1 (DG (acG (m+1) (by omega)) (qo (H9 _) ?_));dsimp only;rw [adI h2 h4];have hl:=pN many;refine eg (aY (by simp;omega)) (eg ?_ (bU ?_ ?_))
 ·rw [hl];match many,h2,h4 with
  | 2,_,_=>rfl
  | 3,_,_=>rfl
  | 4,_,_=>rfl
 ·match many,h2,h4 with
  | 2,_,_=>rfl
  | 3,_,_=>rfl
  | 4,_,_=>rfl
 ·rw [akX,show ak (1+(N:Int))=((N+1:Nat):Int) from gM];exact g3
end
section
open Go Go.ax
variable {nm:BB}
theorem an' {P:Nat} {a:AM} (h:Al P a):nc P [a]:=⟨by simp,by simp,by simp,fun x hx=>by simp at hx;subst hx;exact h⟩
theorem aoa {P:Nat} {a b:AM} (h:Al P a) (h':Al P b) (hn:a.mw≠b.mw):nc P [a,b]:=
 ⟨by simp,by simp,by simpa using hn,fun x hx=>by simp at hx;rcases hx with rfl | rfl;exact h;exact h'⟩
def sn (i:Nat) (go:BB) (k:Int) (x:BB) (nx:Nat):List D:=[.str (bJ i),.str (bJ (i+1)),.sl .own 4 [[.str go,.int .i64 k,.str x,.int .i64 (nx:Int)]]]
section
variable {m q:Nat} {b:Bool} {s:List BB} {x4:au ao} {z:au nk} {go dI:BB}
theorem SU (hm:10≤m) (hs:nR s) {M i:Nat} (hM:M≤4) (back:Bool) (hi:i+1 < M) {P:RR} (hP:P.length≤20) {d:au ao} (hd:cQ d) :
  ∃(kd:Int) (x:BB) (d':au ao),(kd,x)∈iS∧cQ d'∧∀k,ui (T m) q x4 (k+1) (M:Int) b (gY s) d z (nm,(.own,c8 M),(.own,P),()) go dI back (i:Int) =
   ui (T m) q x4 k (M:Int) b (gY s) d' z (nm,(.own,c8 M),(.own,P++[sn i go kd x (P.length+1)]),()) go dI back ((i+1:Nat):Int):=by
 obtain ⟨kd,x,d',hc,dq,e⟩:=Oq m (by omega) b hs hd;refine ⟨kd,x,d',hc,dq,fun k=>?_⟩;have hw:=wI i;have mq:ak (ae P.length+1)=((P.length+1:Nat):Int):=gM (by rw [bI];omega) (by omega);rw [aae,hw];refine dD (aY (by omega)) (mG (mG (sK (v:=(bJ i,())) rfl (nW (by omega)) (by simp) rfl ?_)));dsimp only;refine sK (v:=(bJ (i+1),())) rfl (nW (by omega)) (by simp) rfl ?_;dsimp only;refine pS e rfl (eg (room (by omega) (by omega)) ?_);dsimp only;rw [mq];rfl
theorem SS (hm:10≤m) {M i:Nat} (hM:M≤4) (h2:2≤M) (hi:i+1=M) {P:RR} (hP:P.length≤20) {d:au ao} (hd:cQ d) :
  ∃(kd:Int) (d':au ao),(kd,[])∈iS∧cQ d'∧∀k,ui (T m) q x4 (k+1) (M:Int) b (gY s) d z (nm,(.own,c8 M),(.own,P),()) go dI true (i:Int) =
   zV (T m) q x4 q (M:Int) d' z (nm,(.own,c8 M),(.own,P++[[.str (bJ (M - 1)),.str (bJ 0),.sl .own 4 [[.str [111,107],.int .i64 kd,.str [],.int .i64 0]]]]),()) dI:=by
 obtain ⟨kd,d',hc,dq,e⟩:=IG m (by omega) hd;refine ⟨kd,d',hc,dq,fun k=>?_⟩;have hw:=wI i;have mq:ak ((M:Int) - 1)=((M - 1:Nat):Int):=gM;rw [aae,hw,mq];refine bU (bV (by omega)) (dD rfl (mG (mG (sK (v:=(bJ (M - 1),())) rfl (nW (by omega)) (by simp) rfl ?_))));dsimp only;have hr:=nW (many:=M) (k:=0) (by omega);refine eg (aY (by rw [pN];show 0 < M;omega)) (qo (b:=[.str (bJ 0)]) (by simpa using hr) (eg rfl ?_));show aH _ _ _=_;refine pS e rfl (eg (room (by omega) (by omega)) ?_);rfl
abbrev uv (nm:BB) (M:Nat) (ps:List PT):V:=.agg [sC nm,lC (.im false) 1 (c8 M),lC (.im false) 3 (ps.map cP)]
abbrev pp (i j:Nat) (ms:List AM):PT:=⟨bJ i,bJ j,false,ms⟩
abbrev y7:PT:=⟨[],[],true,[]⟩
abbrev qE (go dI:BB) (k:Int):List D:=[.str (bJ 0),.str (bJ 1),.sl .own 4 [[.str go,.int .i64 k,.str [],.int .i64 1],[.str dI,.int .i64 0,.str [],.int .i64 0]]]
theorem t2b (k1 k2:Int) (d:au ao):zV (T m) (q+20) x4 (q+20) 2 d z (nm,(.own,c8 2),(.own,[qE go dI k1]++[[.str (bJ (2 - 1)),.str (bJ 0),.sl .own 4 [[.str [111,107],.int .i64 k2,.str [],.int .i64 0]]]]),()) dI =
 some (uv nm 2 [pp 0 1 [⟨go,k1,[],1⟩,⟨dI,0,[],2⟩],pp 1 0 [⟨[111,107],k2,[],0⟩],y7],[bx ao d]):=by kernel_rfl
theorem t2n (k1:Int) (d:au ao):ui (T m) (q+20) x4 (q+20) 2 b (gY s) d z (nm,(.own,c8 2),(.own,[qE go dI k1]),()) go dI false 1 =
 some (uv nm 2 [pp 0 1 [⟨go,k1,[],0⟩,⟨dI,0,[],1⟩],y7],[bx ao d]):=by kernel_rfl
theorem t3b (k1 k2 k3:Int) (x:BB) (d:au ao):zV (T m) (q+20) x4 (q+20) 3 d z (nm,(.own,c8 3),(.own,([qE go dI k1]++[sn 1 go k2 x 2])++[[.str (bJ (3 - 1)),.str (bJ 0),.sl .own 4 [[.str [111,107],.int .i64 k3,.str [],.int .i64 0]]]]),()) dI =
 some (uv nm 3 [pp 0 1 [⟨go,k1,[],1⟩,⟨dI,0,[],3⟩],pp 1 2 [⟨go,k2,x,2⟩],pp 2 0 [⟨[111,107],k3,[],0⟩],pp 1 2 [⟨dI,0,[],4⟩],y7],[bx ao d]):=by kernel_rfl
theorem t3n (k1 k2:Int) (x:BB) (d:au ao):ui (T m) (q+20) x4 (q+19) 3 b (gY s) d z (nm,(.own,c8 3),(.own,[qE go dI k1]++[sn 1 go k2 x 2]),()) go dI false 2 =
 some (uv nm 3 [pp 0 1 [⟨go,k1,[],1⟩,⟨dI,0,[],2⟩],pp 1 2 [⟨go,k2,x,0⟩],pp 1 2 [⟨dI,0,[],3⟩],y7],[bx ao d]):=by kernel_rfl
theorem t4b (k1 k2 k3 k4:Int) (x y:BB) (d:au ao):zV (T m) (q+20) x4 (q+20) 4 d z (nm,(.own,c8 4),(.own,(([qE go dI k1]++[sn 1 go k2 x 2])++[sn 2 go k3 y 3])++[[.str (bJ (4 - 1)),.str (bJ 0),.sl .own 4 [[.str [111,107],.int .i64 k4,.str [],.int .i64 0]]]]),()) dI =
 some (uv nm 4 [pp 0 1 [⟨go,k1,[],1⟩,⟨dI,0,[],4⟩],pp 1 2 [⟨go,k2,x,2⟩],pp 2 3 [⟨go,k3,y,3⟩],pp 3 0 [⟨[111,107],k4,[],0⟩],pp 1 2 [⟨dI,0,[],5⟩],pp 2 3 [⟨dI,0,[],6⟩],y7],[bx ao d]):=by kernel_rfl
theorem t4n (k1 k2 k3:Int) (x y:BB) (d:au ao):ui (T m) (q+20) x4 (q+18) 4 b (gY s) d z (nm,(.own,c8 4),(.own,([qE go dI k1]++[sn 1 go k2 x 2])++[sn 2 go k3 y 3]),()) go dI false 3 =
 some (uv nm 4 [pp 0 1 [⟨go,k1,[],1⟩,⟨dI,0,[],3⟩],pp 1 2 [⟨go,k2,x,2⟩],pp 2 3 [⟨go,k3,y,0⟩],pp 1 2 [⟨dI,0,[],4⟩],pp 2 3 [⟨dI,0,[],5⟩],y7],[bx ao d]):=by kernel_rfl
end
theorem ao6 (m q:Nat) (hm:10≤m) (b:Bool) {s:List BB} (hs:nR s) {M:Nat} (h2:2≤M) (h4:M≤4) (x4:au ao) (z:au nk) {go dI:BB} (hg:go∈qt) (hq:dI∈qt) (az:go≠dI) (back:Bool) {k1:Int} (hk:(k1,[])∈iS) {d:au ao} (hd:cQ d) :
  ∃(ps:List PT) (d':au ao),kU M ps∧cQ d'∧ui (T m) (q+20) x4 (q+20) (M:Int) b (gY s) d z (nm,(.own,c8 M),(.own,[qE go dI k1]),()) go dI back 1=some (uv nm M ps,[bx ao d']):=by
 have h0:((0:Int),([]:BB))∈iS:=by decide
 have aQ:[111,107]∈qt:=by decide
 have xQ:∀{P i j a c x} {k:Int},i < M→j < M→i≠j→(k,x)∈iS→a < P→c < P→rq P M (pp i j [⟨go,k,x,a⟩,⟨dI,0,[],c⟩]):=fun h1 h2 h3 h4 h5 h6=>.inr ⟨_,_,h1,h2,h3,rfl,rfl,aoa ⟨hg,h4,h5⟩ ⟨hq,h0,h6⟩ az⟩
 have lU:∀{P i j a l x} {k:Int},i < M→j < M→i≠j→l∈qt→(k,x)∈iS→a < P→rq P M (pp i j [⟨l,k,x,a⟩]):=fun h1 h2 h3 h4 h5 h6=>.inr ⟨_,_,h1,h2,h3,rfl,rfl,an' ⟨h4,h5,h6⟩⟩
 have C9:∀{P},rq P M y7:=.inl ⟨rfl,rfl,rfl⟩;match M,h2,h4 with
 | 2,_,_=>
  cases back with
  | true=>
   obtain ⟨k2,d',hc,dq,e⟩:=SS (q:=q+20) (b:=b) (s:=s) (x4:=x4) (z:=z) (go:=go) (dI:=dI) hm (M:=2) (i:=1) (by omega) (by omega) rfl (P:=[qE go dI k1]) (by simp) hd;refine ⟨_,d',⟨by omega,by omega,?_,?_,?_⟩,dq,(e (q+19)).trans (t2b k1 k2 d')⟩
   ·simp
   ·simp
   ·intro p hp;simp only [gT,nD,nF] at hp;rcases hp with rfl | rfl | rfl
    ·exact xQ (by omega) (by omega) (by omega) hk (by simp) (by simp)
    ·exact lU (by omega) (by omega) (by omega) aQ hc (by simp)
    ·exact C9
  | false=>
   refine ⟨_,d,⟨by omega,by omega,?_,?_,?_⟩,hd,t2n k1 d⟩
   ·simp
   ·simp
   ·intro p hp;simp only [gT,nD,nF] at hp;rcases hp with rfl | rfl
    ·exact xQ (by omega) (by omega) (by omega) hk (by simp) (by simp)
    ·exact C9
 | 3,_,_=>
  obtain ⟨k2,x,d1,dF,cJ,e1⟩:=SU (q:=q+20) (b:=b) (s:=s) (x4:=x4) (z:=z) (go:=go) (dI:=dI) hm hs (M:=3) (i:=1) (by omega) back (by omega) (P:=[qE go dI k1]) (by simp) hd;cases back with
  | true=>
   obtain ⟨k3,d',hc,dq,e⟩:=SS (q:=q+20) (b:=b) (s:=s) (x4:=x4) (z:=z) (go:=go) (dI:=dI) hm (M:=3) (i:=2) (by omega) (by omega) rfl (P:=[qE go dI k1]++[sn 1 go k2 x 2]) (by simp) cJ;refine ⟨_,d',⟨by omega,by omega,?_,?_,?_⟩,dq,(e1 (q+19)).trans ((e (q+18)).trans (t3b k1 k2 k3 x d'))⟩
   ·simp
   ·simp
   ·intro p hp;simp only [gT,nD,nF] at hp;rcases hp with rfl | rfl | rfl | rfl | rfl
    ·exact xQ (by omega) (by omega) (by omega) hk (by simp) (by simp)
    ·exact lU (by omega) (by omega) (by omega) hg dF (by simp)
    ·exact lU (by omega) (by omega) (by omega) aQ hc (by simp)
    ·exact lU (by omega) (by omega) (by omega) hq h0 (by simp)
    ·exact C9
  | false=>
   refine ⟨_,d1,⟨by omega,by omega,?_,?_,?_⟩,cJ,(e1 (q+19)).trans (t3n k1 k2 x d1)⟩
   ·simp
   ·simp
   ·intro p hp;simp only [gT,nD,nF] at hp;rcases hp with rfl | rfl | rfl | rfl
    ·exact xQ (by omega) (by omega) (by omega) hk (by simp) (by simp)
    ·exact lU (by omega) (by omega) (by omega) hg dF (by simp)
    ·exact lU (by omega) (by omega) (by omega) hq h0 (by simp)
    ·exact C9
 | 4,_,_=>
  obtain ⟨k2,x,d1,dF,cJ,e1⟩:=SU (q:=q+20) (b:=b) (s:=s) (x4:=x4) (z:=z) (go:=go) (dI:=dI) hm hs (M:=4) (i:=1) (by omega) back (by omega) (P:=[qE go dI k1]) (by simp) hd;obtain ⟨k3,y,d2,gy,fk,e2⟩:=SU (q:=q+20) (b:=b) (s:=s) (x4:=x4) (z:=z) (go:=go) (dI:=dI) hm hs (M:=4) (i:=2) (by omega) back (by omega) (P:=[qE go dI k1]++[sn 1 go k2 x 2]) (by simp) cJ;cases back with
  | true=>
   obtain ⟨k4,d',hc,dq,e⟩:=SS (q:=q+20) (b:=b) (s:=s) (x4:=x4) (z:=z) (go:=go) (dI:=dI) hm (M:=4) (i:=3) (by omega) (by omega) rfl (P:=([qE go dI k1]++[sn 1 go k2 x 2])++[sn 2 go k3 y 3]) (by simp) fk;refine ⟨_,d',⟨by omega,by omega,?_,?_,?_⟩,dq,(e1 (q+19)).trans ((e2 (q+18)).trans ((e (q+17)).trans (t4b k1 k2 k3 k4 x y d')))⟩
   ·simp
   ·simp
   ·intro p hp;simp only [gT,nD,nF] at hp;rcases hp with rfl | rfl | rfl | rfl | rfl | rfl | rfl
    ·exact xQ (by omega) (by omega) (by omega) hk (by simp) (by simp)
    ·exact lU (by omega) (by omega) (by omega) hg dF (by simp)
    ·exact lU (by omega) (by omega) (by omega) hg gy (by simp)
    ·exact lU (by omega) (by omega) (by omega) aQ hc (by simp)
    ·exact lU (by omega) (by omega) (by omega) hq h0 (by simp)
    ·exact lU (by omega) (by omega) (by omega) hq h0 (by simp)
    ·exact C9
  | false=>
   refine ⟨_,d2,⟨by omega,by omega,?_,?_,?_⟩,fk,(e1 (q+19)).trans ((e2 (q+18)).trans (t4n k1 k2 k3 x y d2))⟩
   ·simp
   ·simp
   ·intro p hp;simp only [gT,nD,nF] at hp;rcases hp with rfl | rfl | rfl | rfl | rfl | rfl
    ·exact xQ (by omega) (by omega) (by omega) hk (by simp) (by simp)
    ·exact lU (by omega) (by omega) (by omega) hg dF (by simp)
    ·exact lU (by omega) (by omega) (by omega) hg gy (by simp)
    ·exact lU (by omega) (by omega) (by omega) hq h0 (by simp)
    ·exact lU (by omega) (by omega) (by omega) hq h0 (by simp)
    ·exact C9
theorem acH (n:Nat) (hn:40≤n) (b:Bool) {s:List BB} (hs:nR s) {M:Nat} (h2:2≤M) (h4:M≤4) {d:au ao} (hd:cQ d) :
  ∃(ps:List PT) (d':au ao),kU M ps∧cQ d'∧T n 188 [pE,.one (sC nm),.one (iC M),.one (lC (.im b) 1 (gY s))] [bx ao d]=some (uv nm M ps,[bx ao d']):=by
 obtain ⟨q,rfl⟩:∃q,n=q+20+1:=⟨n - 21,by omega⟩
 obtain ⟨j1,d1,xm,cJ,e1⟩:=pick (q+20) (by omega) (k:=2) (by omega) (by omega) hd;obtain ⟨j2,d2,lp,fk,e2⟩:=pick (q+20) (by omega) (k:=2) (by omega) (by omega) cJ;obtain ⟨j3,d3,hj3,sA,e3⟩:=pick (q+20) (by omega) (k:=2) (by omega) (by omega) fk;obtain ⟨k1,d4,hk,zu,e4⟩:=IG (q+20) (by omega) sA;have az:mz j1≠mz (2+j2):=fun h=>by have:=aaA h;omega
 obtain ⟨ps,d',px,ze,g3⟩:=ao6 (nm:=nm) (q+20) q (by omega) b hs h2 h4 d ([],((.im true),[]),((.im true),[]),()) (Lv j1) (Lv (2+j2)) az ((j3:Int)==1) hk zu;refine ⟨ps,d',px,ze,agI _ ?_⟩;refine DG (acG (q+20) (by omega)) (qo (H9 _) ?_);dsimp only;rw [adI h2 h4];have hl:=pN M;refine eg (aY (by simp;omega)) (eg ?_ (bU ?_ ?_))
 ·rw [hl];match M,h2,h4 with
  | 2,_,_=>rfl
  | 3,_,_=>rfl
  | 4,_,_=>rfl
 ·match M,h2,h4 with
  | 2,_,_=>rfl
  | 3,_,_=>rfl
  | 4,_,_=>rfl
 ·rw [ak'];refine DG (Lw (q+20) (by omega)) (lX e1 ?_);dsimp only;have l1:=Lu j1;rw [HL (by omega)] at l1;refine iI (v:=(mz j1,())) rfl l1 (by simp) rfl ?_;dsimp only;refine DG (Lw (q+20) (by omega)) (lX e2 ?_);dsimp only;have l2:=Lu (2+j2);rw [HL (by omega)] at l2;refine iI (i:=2+j2) (v:=(mz (2+j2),())) (gM) l2 (by simp) rfl ?_;dsimp only;refine lX e3 (pS e4 rfl (uE (mG ?_)));dsimp only;have ud:=nW (many:=M) (k:=0) (by omega);have jX:=nW (many:=M) (k:=1) (by omega);refine eg (aY (by rw [pN];show 0 < M;omega)) (qo (b:=[.str (bJ 0)]) (by simpa using ud) (eg rfl ?_));show gd _ _=_;refine eg (aY (by rw [pN];show 1 < M;omega)) (qo (b:=[.str (bJ 1)]) (by simpa using jX) (eg rfl ?_));show gd _ _=_;refine eg rfl ?_;rw [ak9];exact g3
theorem aoH (n:Nat) (hn:50≤n) (b:Bool) {s:List BB} (hs:nR s) {d:au ao} (hd:cQ d) :
  ∃(M:Nat) (ps:List PT) (d':au ao),kU M ps∧cQ d'∧T n 137 [pE,.one (sC nm),.one (lC (.im b) 1 (gY s))] [bx ao d]=some (uv nm M ps,[bx ao d']):=by
 obtain ⟨m,rfl⟩:=bm 1 n;obtain ⟨j,d1,hj,cJ,e1⟩:=pick m (by omega) (k:=4) (by omega) (by omega) hd;have tV:∀ps:List PT,∀M:Nat,pn (.agg eb) (uv nm M ps)=some (nm,(false,c8 M),(false,ps.map cP),()):=fun ps M=>rfl
 match j,hj with
 | 0,_=>
  obtain ⟨ps,d',h1,h2,e⟩:=NJ (nm:=nm) m (by omega) b hs 2 (by omega) (by omega) cJ;exact ⟨2,ps,d',h1,h2,IK _ (lX e1 (dD rfl (pS e (tV ps 2) rfl)))⟩
 | 1,_=>
  obtain ⟨i,d2,hi,fk,e2⟩:=pick m (by omega) (k:=3) (by omega) (by omega) cJ;obtain ⟨ps,d',h1,h2,e⟩:=acH (nm:=nm) m (by omega) b hs (M:=i+2) (by omega) (by omega) fk;refine ⟨i+2,ps,d',h1,h2,IK _ (lX e1 (bU rfl (dD rfl (lX e2 ?_))))⟩;dsimp only;rw [show ak (2+(i:Int))=((i+2:Nat):Int) from gM];exact pS e (tV ps (i+2)) rfl
 | 2,_=>
  obtain ⟨ps,d',h1,h2,e⟩:=NJ (nm:=nm) m (by omega) b hs 3 (by omega) (by omega) cJ;exact ⟨3,ps,d',h1,h2,IK _ (lX e1 (bU rfl (bU rfl (dD rfl (pS e (tV ps 3) rfl)))))⟩
 | 3,_=>
  obtain ⟨ps,d',h1,h2,e⟩:=acH (nm:=nm) m (by omega) b hs (M:=3) (by omega) (by omega) cJ;exact ⟨3,ps,d',h1,h2,IK _ (lX e1 (bU rfl (bU rfl (bU rfl (pS e (tV ps 3) rfl)))))⟩
structure TN where
 kd:Int
 pr:BB
 t:Bool
 ms:List AM
def cN (p:TN):List D:=[.int .i64 p.kd,.str p.pr,.sl (.im p.t) 4 (p.ms.map cM)]
theorem S6:∀a:TN,0+3≤(cN a).length∧dV jz (List.take 3 (List.drop 0 (cN a)))=some ((fun t=>(t.kd,t.pr,(t.t,t.ms.map cM),())) a):=(fun a=>⟨by simp [cN],rfl⟩)
def C8 (P:Nat) (p:TN):Prop:=(p.kd=0∧p.pr=[]∧p.ms=[])∨((p.kd=1∨p.kd=2)∧(∃k,k < 2∧p.pr=bJ k)∧nc P p.ms)
def Ak (ts:List TN):Prop:=1≤ts.length∧ts.length≤6∧∀p∈ts,C8 ts.length p
theorem Sy:∀l:List TN,aW (l.map cN)=l.map cN
 | []=>rfl
 | a::t=>by
  simp only [gl,aW,Sy t];rfl
end
section
open Go Go.ax
def lR:List BB:=[[97],[98],[99],[100],[101],[112],[122,122],[119],[120],[121],[122],[111,107],[109,97,105,110],[113]]
theorem vL (n:Nat) (hn:40≤n) {x:BB} (hx:x∈lR):T n 62 [.one (sC x)] []=some (.one (bC true),[]):=by
 simp only [lR,gT,nD,nF] at hx;rcases hx with rfl | rfl | rfl | rfl | rfl | rfl | rfl | rfl | rfl | rfl | rfl | rfl | rfl | rfl;all_goals (obtain ⟨m,rfl⟩:=bm 40 n;kernel_rfl)
theorem apX (n:Nat) (hn:60≤n) {k:Int} {x:BB} (hx:(k,x)∈iS):T n 165 [.agg [iC k,sC x]] []=some (.one (bC true),[]):=by
 simp only [iS,gT,nD,nF,fL] at hx;rcases hx with ⟨rfl,rfl⟩ | ⟨rfl,rfl⟩ | ⟨rfl,rfl⟩ | ⟨rfl,rfl⟩ | ⟨rfl,rfl⟩ | ⟨rfl,rfl⟩ | ⟨rfl,rfl⟩ | ⟨rfl,rfl⟩ | ⟨rfl,rfl⟩ | ⟨rfl,rfl⟩ | ⟨rfl,rfl⟩ | ⟨rfl,rfl⟩ | ⟨rfl,rfl⟩;all_goals (obtain ⟨m,rfl⟩:=bm 60 n;kernel_rfl)
def ma (k:Int) (x:BB):BB:=if k=0 then [117,110,105,116] else if k=1 then [105,110,116] else if k=2 then [98,111,111,108] else if k=3 then [116,101,120,116] else if k=4 then [108,105,115,116] else [99,104,97,110,32]++x
theorem abK (n:Nat) (hn:80≤n) {k:Int} {x:BB} (hx:(k,x)∈iS):T n 17 [.agg [iC k,sC x]] []=some (.one (sC (ma k x)),[]):=by
 simp only [iS,gT,nD,nF,fL] at hx;rcases hx with ⟨rfl,rfl⟩ | ⟨rfl,rfl⟩ | ⟨rfl,rfl⟩ | ⟨rfl,rfl⟩ | ⟨rfl,rfl⟩ | ⟨rfl,rfl⟩ | ⟨rfl,rfl⟩ | ⟨rfl,rfl⟩ | ⟨rfl,rfl⟩ | ⟨rfl,rfl⟩ | ⟨rfl,rfl⟩ | ⟨rfl,rfl⟩ | ⟨rfl,rfl⟩;all_goals (obtain ⟨m,rfl⟩:=bm 80 n;kernel_rfl)
def dg (k:Nat):BB:=[UInt8.ofNat (48+k)]
theorem Xm {p:Nat→BB→Prop} (h:p 0 [48]∧p 1 [49]∧p 2 [50]∧p 3 [51]∧p 4 [52]∧p 5 [53]∧p 6 [54]∧p 7 [55]∧p 8 [56]∧p 9 [57]) {k:Nat} (hk:k < 10):p k (dg k):=by
 obtain ⟨h0,h1,h2,h3,h4,h5,h6,h7,h8,h9⟩:=h;match k,hk with
 | 0,_=>exact h0
 | 1,_=>exact h1
 | 2,_=>exact h2
 | 3,_=>exact h3
 | 4,_=>exact h4
 | 5,_=>exact h5
 | 6,_=>exact h6
 | 7,_=>exact h7
 | 8,_=>exact h8
 | 9,_=>exact h9
theorem akg (n:Nat) (hn:20≤n) {k:Nat} (hk:k < 10):T n 57 [.one (iC k)] []=some (.one (sC (dg k)),[]):=by
 refine Xm (p:=fun k d=>T n 57 [.one (iC k)] []=some (.one (sC d),[])) ?_ hk;refine ⟨?_,?_,?_,?_,?_,?_,?_,?_,?_,?_⟩;all_goals (obtain ⟨m,rfl⟩:=bm 20 n;kernel_rfl)
theorem aog (n:Nat) (hn:20≤n) (b:Bool) {many:Nat} (h2:2≤many) (h4:many≤4):T n 95 [.one (lC (.im b) 1 (c8 many))] []=some (.one (bC true),[]):=by
 obtain ⟨m,rfl⟩:=bm 20 n;have:many=2∨many=3∨many=4:=by omega
 rcases this with rfl | rfl | rfl;all_goals (show _=_;kernel_rfl)
theorem YI (n:Nat) (hn:20≤n) (b:Bool) {many k:Nat} (h4:many≤4) (hk:k < many):T n 110 [.one (lC (.im b) 1 (c8 many)),.one (sC (bJ k))] []=some (.one (bC true),[]):=by
 obtain ⟨m,rfl⟩:=bm 20 n;have h1:many=1∨many=2∨many=3∨many=4:=by omega
 have h2:k=0∨k=1∨k=2∨k=3:=by omega
 rcases h1 with rfl | rfl | rfl | rfl<;>rcases h2 with rfl | rfl | rfl | rfl<;>first | omega | (show _=_;kernel_rfl)
theorem aaB {x:BB} (h:x∈qt):x∈lR:=by
 simp only [qt,gT,nD,nF] at h;rcases h with rfl | rfl | rfl | rfl | rfl<;>decide
theorem G5 {k:Nat} (h:k < 4):bJ k∈lR:=by
 match k,h with
 | 0,_=>decide
 | 1,_=>decide
 | 2,_=>decide
 | 3,_=>decide
end
section
open Go Go.ax
theorem aa8:∀(l:List BB) (x:BB),qv (l.map fun s=>[.str s,.bool true]) x=l.contains x
 | [],x=>rfl
 | s::l,x=>by
  have ih:=aa8 l x;rw [List.contains_cons,←ih];show (bif x==s then true else qv (l.map fun s=>[.str s,.bool true]) x)=_;cases x==s<;>rfl
theorem aa9:∀(l:List BB) (x:BB),x∉l→qw (l.map fun s=>[.str s,.bool true]) x true=(l++[x]).map fun s=>[.str s,.bool true]
 | [],x,h=>rfl
 | s::l,x,h=>by
  rw [gT,not_or] at h;have ih:=aa9 l x h.2;show (bif x==s then _ else [.str s,.bool true]::qw (l.map fun s=>[.str s,.bool true]) x true)=_;rw [show (x==s)=false from nE.2 h.1,ih];rfl
theorem Pr {l:List AM} {i:Nat} {a:AM} (h:l[i]? = some a):(l.map cM)[i]? = some (cM a):=by rw [bS,h];rfl
theorem VG (m q:Nat) (hm:60≤m) (b:Bool) (P:Nat) (l:List AM) (aQ:nc P l):∀(k i:Nat),l.length - i < k→i≤l.length→
  Lt (T m) q k (P:Int) (((l.take i).map AM.mw).map fun s=>[.str s,.bool true]) b (l.map cM) (ae (l.map cM).length) (i:Int)=some (.one (bC true),[])
 | 0,i,h,_=>by omega
 | k+1,i,h,hi=>by
  obtain ⟨o1,o2,o3,o4⟩:=aQ;rw [anp];by_cases af:i < l.length
  ·have hg:l[i]? = some l[i]:=gE af;obtain ⟨p1,p2,p3⟩:=o4 l[i] (bM af);have JI:l.take (i+1)=l.take i++[l[i]]:=by rw [uM,hg];rfl
   have Zb:l[i].mw∉(l.take i).map AM.mw:=by
    have h1:((l.take (i+1)).map AM.mw).Nodup:=by
     rw [List.map_take];exact o3.sublist (List.take_sublist _ _)
    rw [JI,eB,HG] at h1;intro vr;exact h1.2.2 _ vr _ (by simp) rfl
   refine dD (aY (by rw [bI,cy];omega)) (iI (v:=(l[i].mw,l[i].kd,l[i].nm,(l[i].nx:Int),())) rfl (Pr hg) (by simp [cM]) rfl ?_);dsimp only;refine oc (vL m (by omega) (aaB p1)) (bU rfl (bU ?_ (oc (apX m hm p2) (bU rfl (bU (show decide ((l[i].nx:Int) < 0)=false from bV (by omega)) (bU (show decide ((l[i].nx:Int)≥(P:Int))=false from bV (by omega)) ?_))))))
   ·rw [aa8,List.contains_eq_mem];exact bV Zb
   ·rw [aa9 _ _ Zb,wI i];have ih:=VG m q hm b P l ⟨o1,o2,o3,o4⟩ k (i+1) (by omega) (by omega);rw [JI,eB] at ih;exact ih
  ·exact bU (bV (by rw [bI,cy];omega)) rfl
theorem VF (n:Nat) (hn:70≤n) (b:Bool) {P:Nat} {l:List AM} (aQ:nc P l):T n 108 [.one (lC (.im b) 4 (l.map cM)),.one (iC (P:Int))] []=some (.one (bC true),[]):=by
 obtain ⟨m,rfl⟩:=bm 2 n;refine ahE _ (bU (bV ?_) (bU (bV ?_) ?_))
 ·rw [bI,cy];have:=aQ.1;omega
 ·rw [bI,cy];have:=aQ.2.1;omega
 ·rw [anq];exact VG (m+1) (m+1) (by omega) b P l aQ (m+1) 0 (by have:=aQ.2.1;omega) (by omega)
theorem Yr {l:List TN} {i:Nat} {a:TN} (h:l[i]? = some a):(l.map cN)[i]? = some (cN a):=by rw [bS,h];rfl
def Sp (P:Nat) (p:TN):Prop:=(p.kd=0∧p.pr=[]∧p.ms=[])∨((p.kd=1∨p.kd=2)∧p.pr∈lR∧nc P p.ms)
theorem Gu (m q:Nat) (hm:80≤m) (b:Bool) (a0:au oU) (P:Nat) (hP:ae a0.2.1.2.length=(P:Int)) (l:List TN) (hl:l.length≤40) (aQ:∀p∈l,Sp P p):∀(k i:Nat),l.length - i < k→i≤l.length→
  Lr (T m) (q+1) k a0 b (l.map cN) (ae (l.map cN).length) (i:Int)=some (.one (bC true),[])
 | 0,i,h,_=>by omega
 | k+1,i,h,hi=>by
  rw [anl];by_cases af:i < l.length
  ·have hg:l[i]? = some l[i]:=gE af;have ih:=Gu m q hm b a0 P hP l hl aQ k (i+1) (by omega) (by omega);refine dD (aY (by rw [bI,cy];omega)) (iI (v:=(l[i].kd,l[i].pr,(l[i].t,l[i].ms.map cM),())) rfl (Yr hg) (by simp [cN]) (by simp [cN,dV,kq]) ?_);dsimp only;have fin:Gp (T m) (q+1) k (q+1) a0 b (l.map cN) (ae (l.map cN).length) (i:Int) (l[i].kd,l[i].pr,(l[i].t,l[i].ms.map cM),())=some (.one (bC true),[]):=by
    rw [anm,wI i];exact ih
   rcases aQ l[i] (bM af) with ⟨p1,p2,p3⟩ | ⟨p1,p2,p3⟩
   ·refine dD (by rw [p1];rfl) (bU (by rw [p2];rfl) (bU (by rw [p3];rfl) fin))
   ·rw [hP];rcases p1 with p1 | p1
    ·refine bU (by rw [p1];rfl) (dD (by rw [p1];rfl) (oc (vL m (by omega) p2) (bU rfl (oc (VF m (by omega) _ p3) (bU rfl fin)))))
    ·refine bU (by rw [p1];rfl) (bU (by rw [p1];rfl) (dD (by rw [p1];rfl) (oc (vL m (by omega) p2) (bU rfl (oc (VF m (by omega) _ p3) (bU rfl fin))))))
  ·exact bU (bV (by rw [bI,cy];omega)) rfl
theorem MN (n:Nat) (hn:90≤n) (b:Bool) (nm:BB) {l:List TN} (h1:1≤l.length) (hl:l.length≤40) (aQ:∀p∈l,Sp l.length p):T n 53 [.agg [sC nm,lC (.im b) 3 (l.map cN)]] []=some (.one (bC true),[]):=by
 obtain ⟨m,rfl⟩:=bm 2 n;refine ahD _ (bU (bV ?_) (bU (bV ?_) ?_))
 ·rw [bI,cy];omega
 ·rw [bI,cy];omega
 ·rw [ano];exact Gu (m+1) m (by omega) b _ l.length (by rw [bI,cy]) l hl aQ (m+1) 0 (by omega) (by omega)
theorem abl {P:Nat} {p:TN} (h:C8 P p):Sp P p:=by
 rcases h with h | ⟨h1,⟨k,h2,h3⟩,h4⟩
 ·exact .inl h
 ·exact .inr ⟨h1,h3▸G5 (by omega),h4⟩
def gN (p:PT):TN:=if p.ms=[] then ⟨0,[],p.t,[]⟩ else ⟨1,p.to,p.t,p.ms⟩
theorem Ps {l:List PT} {i:Nat} {a:PT} (h:l[i]? = some a):(l.map cP)[i]? = some (cP a):=by rw [bS,h];rfl
theorem Yv (m q:Nat) (b:Bool) (z:au Hb) {P many:Nat} (l:List PT) (hl:l.length≤24) (aQ:∀p∈l,rq P many p):∀(k i:Nat),l.length - i < k→i≤l.length→1≤l.length→
  J1 (T m) (q+1) k z ([],nq (((l.take i).map gN).map cN),()) b (l.map cP) (ae (l.map cP).length) (i:Int)=some (.agg [sC [],lC (.im false) 3 ((l.map gN).map cN)],[])
 | 0,i,h,_,_=>by omega
 | k+1,i,h,hi,h1=>by
  rw [akp];by_cases af:i < l.length
  ·have hg:l[i]? = some l[i]:=gE af;have JI:l.take (i+1)=l.take i++[l[i]]:=by rw [uM,hg];rfl
   have ih:=Yv m q b z l hl aQ k (i+1) (by omega) (by omega) h1;rw [JI,eB,eB,show List.map cN (List.map gN [l[i]])=[cN (gN l[i])] from rfl,adK] at ih;refine dD (aY (by rw [bI,cy];omega)) (iI (v:=(l[i].fr,l[i].to,(l[i].t,l[i].ms.map cM),())) rfl (Ps hg) (by simp [cP]) (by simp [cP,dV,kq]) ?_);dsimp only;have hw:=wI i;have fin:∀(x:au ada) (kd:Int) (pr:BB),cN (gN l[i])=[.int .i64 kd,.str pr,.sl (.im l[i].t) 4 (l[i].ms.map cM)]→
     Cw (T m) (q+1) k (q+1) z ([],nq (((l.take i).map gN).map cN),()) b (l.map cP) (ae (l.map cP).length) (i:Int) x (kd,pr,((.im l[i].t),l[i].ms.map cM),())=some (.agg [sC [],lC (.im false) 3 ((l.map gN).map cN)],[]):=by
    intro x kd pr hc;rw [akq,hw];have hlen:(((l.take i).map gN).map cN).length=i:=by simp;omega
    rw [hc] at ih;generalize ((l.take i).map gN).map cN=R at ih hlen ⊢;cases R with
    | nil=>exact uE (uE (eg rfl ih))
    | cons r R=>exact mG (uE (eg (room (by simp only [nq];omega) (by omega)) ih))
   rcases aQ l[i] (bM af) with ⟨p1,p2,p3⟩ | ⟨k1,k2,_,_,_,p1,p2,p3⟩
   ·refine bU (by rw [p1];rfl) (bU (by rw [p2];rfl) (bU (by rw [p3];rfl) (fin _ _ _ ?_)));simp [gN,cN,p3]
   ·refine dD (by rw [p1];rfl) (fin _ _ _ ?_);have:l[i].ms≠[]:=by
     intro e;have:=p3.1;rw [e] at this;simp at this
    simp [gN,cN,this]
  ·obtain rfl:i=l.length:=by omega
   refine bU (bV (by rw [bI,cy];omega)) ?_;rw [AX];cases l with
   | nil=>simp at h1
   | cons p l=>
    refine mG (eg (g1 (by simp [nq])) (eg (g2 _) ?_));simp only [zB,zW,zM,du,nq];rw [Sy]
theorem aiZ (n:Nat) (hn:40≤n) (b b2:Bool) (nm:BB) (rs:RR) {P many:Nat} {l:List PT} (h1:1≤l.length) (hl:l.length≤24) (aQ:∀p∈l,rq P many p) :
  T n 111 [.agg [sC nm,lC (.im b2) 1 rs,lC (.im b) 3 (l.map cP)]] []=some (.agg [sC [],lC (.im false) 3 ((l.map gN).map cN)],[]):=by
 obtain ⟨m,rfl⟩:=bm 2 n;exact afX _ (Yv (m+1) m b _ l hl aQ (m+1) 0 (by omega) (by omega) h1)
theorem aca {nm:BB} (m q:Nat) (hm:100≤m) (bn:Bool) {b2 b:Bool} {many:Nat} {l:List PT} (h:kU many l):∀(k i:Nat),l.length - i < k→i≤l.length→
  FR (T m) (q+1) k (nm,(b2,c8 many),(b,l.map cP),()) b (l.map cP) (ae (l.map cP).length) (i:Int)=some (.one (bC true),[])
 | 0,i,h,_=>by omega
 | k+1,i,hk,hi=>by
  obtain ⟨o1,o2,o3,o4,o5⟩:=h;rw [akl];by_cases af:i < l.length
  ·have hg:l[i]? = some l[i]:=gE af;have ih:=aca (nm:=nm) m q hm bn (b2:=b2) (b:=b) ⟨o1,o2,o3,o4,o5⟩ k (i+1) (by omega) (by omega);have hw:=wI i;refine dD (aY (by rw [bI,cy];omega)) (iI (v:=(l[i].fr,l[i].to,(l[i].t,l[i].ms.map cM),())) rfl (Ps hg) (by simp [cP]) (by simp [cP,dV,kq]) ?_);dsimp only;rw [hw];rcases o5 l[i] (bM af) with ⟨p1,p2,p3⟩ | ⟨k1,k2,q1,q2,q3,p1,p2,p3⟩
   ·exact dD (by rw [p1];rfl) (dD (by rw [p2];rfl) (dD (by rw [p3];rfl) ih))
   ·refine bU (by rw [p1];rfl) ?_;rw [akm,hw];dsimp only;rw [p1,p2];refine oc (YI m (by omega) b2 o2 q1) (bU rfl (oc (YI m (by omega) b2 o2 q2) (bU rfl (bU ?_ ih))));rw [nE];intro e;have h1:k1 < 4:=by omega
    have h2:k2 < 4:=by omega
    unfold bJ at e;match k1,h1,k2,h2 with
    | 0,_,0,_=>exact q3 rfl
    | 1,_,1,_=>exact q3 rfl
    | 2,_,2,_=>exact q3 rfl
    | 3,_,3,_=>exact q3 rfl
    | 0,_,1,_=>cases e
    | 0,_,2,_=>cases e
    | 0,_,3,_=>cases e
    | 1,_,0,_=>cases e
    | 1,_,2,_=>cases e
    | 1,_,3,_=>cases e
    | 2,_,0,_=>cases e
    | 2,_,1,_=>cases e
    | 2,_,3,_=>cases e
    | 3,_,0,_=>cases e
    | 3,_,1,_=>cases e
    | 3,_,2,_=>cases e
  ·refine bU (bV (by rw [bI,cy];omega)) ?_;refine DH (v:=([],(false,(l.map gN).map cN),())) (aiZ m (by omega) b b2 nm (c8 many) o3 (by omega) o5) (by rfl) ?_;refine oc (MN m (by omega) false [] (l:=l.map gN) (by simpa using o3) (by simp;omega) ?_) rfl;intro p hp;rw [iz] at hp;obtain ⟨x,hx,rfl⟩:=hp;rw [cy];rcases o5 x hx with ⟨p1,p2,p3⟩ | ⟨k1,k2,q1,q2,q3,p1,p2,p3⟩
   ·refine .inl ?_;simp [gN,p3]
   ·have:x.ms≠[]:=by
     intro e;have:=p3.1;rw [e] at this;simp at this
    refine .inr ?_;simp only [gN,this,dE];exact ⟨by simp,p2▸G5 (by omega),p3⟩
theorem acF {nm:BB} (m q:Nat) (hm:100≤m) {b2 b:Bool} {many:Nat} {l:List PT} (h:kU many l) (hq:60≤q):∀(k i:Nat),many - i < k→i≤many→
  J0 (T m) (q+1) k (nm,(b2,c8 many),(b,l.map cP),()) b2 (c8 many) (ae (c8 many).length) (i:Int)=some (.one (bC true),[])
 | 0,i,h,_=>by omega
 | k+1,i,hk,hi=>by
  have hlen:=pN many;have h4:=h.2.1;rw [akn];by_cases af:i < many
  ·have ih:=acF (nm:=nm) m q hm (b2:=b2) (b:=b) h hq k (i+1) (by omega) (by omega);refine dD (aY (by rw [bI,hlen];omega)) (iI (v:=(bJ i,())) rfl (nW af) (by simp) rfl ?_);dsimp only;refine oc (vL m (by omega) (G5 (by omega))) (bU rfl ?_);rw [wI i];exact ih
  ·refine bU (bV (by rw [bI,hlen];omega)) ?_;exact aca m q hm true h (q+1) 0 (by have:=h.2.2.2.1;omega) (by omega)
theorem Yu {nm:BB} (sG:nm∈lR) (n:Nat) (hn:120≤n) (b2 b:Bool) {many:Nat} {l:List PT} (h:kU many l):T n 55 [.agg [sC nm,lC (.im b2) 1 (c8 many),lC (.im b) 3 (l.map cP)]] []=some (.one (bC true),[]):=by
 obtain ⟨m,rfl⟩:=bm 2 n;have hlen:=pN many;have h2:=h.1;have h4:=h.2.1;have h8:=h.2.2.2.1;refine afW _ (oc (vL (m+1) (by omega) sG) (bU rfl (bU (bV ?_) (bU (bV ?_) (oc (aog (m+1) (by omega) b2 h2 h4) (bU rfl (bU (bV ?_) ?_)))))))
 ·rw [bI,hlen];omega
 ·rw [bI,hlen];omega
 ·rw [bI,cy];omega
 ·rw [ako];exact acF (m+1) m (by omega) h (by omega) (m+1) 0 (by omega) (by omega)
end
section
open Go Go.ax
theorem Hh (a b:BB):D.da (a++b)=D.da a++D.da b:=by unfold D.da;exact eB
theorem mF (a:BB):(D.da a).length=a.length:=by unfold D.da;exact cy _
theorem DE:∀b:BB,kA (D.da b)=some b
 | []=>rfl
 | c::r=>by
  show (kA (D.da r)).map (UInt8.ofNat ((c.toNat:Int).toNat) :: ·)=some (c::r);rw [DE r];show some (UInt8.ofNat c.toNat::r)=_;rw [UInt8.ofNat_toNat]
theorem MT (x:RR) (b:Bool):fT 1 x b=true:=by
 show (lS x||true)=true;exact Bool.or_true _
abbrev B0:au bl:=((),(.im true,[]),())
abbrev BW (t:BB):au bl:=((),(.own,D.da t),())
section
variable {m:Nat} {s t:BB} {z:OR}
theorem WW {x:au bl} (hm:1≤m) {K:Unit×au bl×Unit→OR} (h:K ((),x,())=z):c91 (T m) x K=z:=by
 obtain ⟨m,rfl⟩:=bm 1 m;obtain ⟨⟨⟩,⟨tg,r⟩,⟨⟩⟩:=x;have e:T (m+1) 91 [pE] [bx bl ((),(tg,r),())]=some (.aq [],[bx bl ((),(tg,r),())]):=by kernel_rfl
 exact T5 e h
theorem adQ {o:OR} {i:Int} {ds:List DS} {p:au ds} {K:(Int×Bool×Unit)×au ds×Unit→OR} {y:OR} (h:o=some (.aq [.one (iC i),.one .fS],[bx ds p])) (h2:K ((i,true,()),p,())=y):aH (.aq [.one (.int .i64),.fm] [ds]) o K=y:=by
 subst h;simp only [aH,ig,IH];exact h2
theorem Xd (hm:2≤m) (hs:s≠[]) (hl:s.length≤100000000000000) {K:(Int×Bool×Unit)×au bl×Unit→OR} (h:∀n:Int,K ((n,true,()),BW s,())=z):dv (T m) s B0 K=z:=by
 obtain ⟨m,rfl⟩:=bm 1 m;refine adQ (i:=ae s.length) (OY _ (WW (by omega) (uE (eg ?_ (bU ?_ rfl))))) (h _)
 ·rw [MT,mF];simp;omega
 ·cases s with
  | nil=>exact absurd rfl hs
  | cons=>rfl
theorem qU (hm:2≤m) (hl:t.length+s.length≤100000000000000) {K:(Int×Bool×Unit)×au bl×Unit→OR} (h:∀n:Int,K ((n,true,()),BW (t++s),())=z):dv (T m) s (BW t) K=z:=by
 obtain ⟨m,rfl⟩:=bm 1 m;refine adQ (i:=ae s.length) (OY _ (WW (by omega) (mG (eg ?_ ?_)))) (h _)
 ·dsimp only [zM];rw [MT,mF,mF];simp;omega
 ·exact fX (fun x:RR=>(some (V.aq [.one (iC (ae s.length)),.one .fS],[bx bl ((),(Tag.own,x),())]):OR)) (Hh t s).symm
theorem OF (hm:2≤m) (ht:t≠[]) (hl:t.length≤100000000000000) {K:BB×au yo×Unit→OR} (h:K (t,((),(),()),())=z):c37 (T m) (BW t) K=z:=by
 obtain ⟨m,rfl⟩:=bm 1 m;have h0:((D.da t).length==0)=false:=by
  rw [mF];cases t with
  | nil=>exact absurd rfl ht
  | cons=>rfl
 refine aqa (Xu _ (mG (eg ?_ (eg ?_ (qo (DE t) rfl))))) h
 ·dsimp only;rw [h0];rfl
 ·dsimp only;rw [h0,mF];simp;omega
theorem afA (hm:1≤m) {n:Nat} (h1:1≤n) (h2:n≤100000000000000) {K:Unit×au bl×Unit→OR} (h:K ((),BW [],())=z):Wb (T m) (n:Int) B0 K=z:=by
 obtain ⟨m,rfl⟩:=bm 1 m;have hd:decide ((1:Int)≤(n:Int)∧(n:Int)≤140737488355328)=true:=aY ⟨by omega,by omega⟩
 have e : T (m + 1) 112 [pE, .one (iC (n : Int))] [bx bl B0] = (match Nat.beq 89 89, decide ((1 : Int) ≤ (n : Int) ∧ (n : Int) ≤ 140737488355328) with
     | true, true => some (.aq [], [bx bl (BW [])])
     | _, _ => none) := by kernel_rfl
 rw [hd] at e;exact T5 e h
def kR (l:List BB):BB:=l.flatMap fun y=>[44,32]++y
def ik:List BB→BB
 | []=>[]
 | x::t=>x++kR t
abbrev strs (l:List BB):RR:=l.map fun s=>[.str s]
theorem adG {l:List BB} {i:Nat} (h:i < l.length):(strs l)[i]? = some [.str l[i]]:=by
 rw [bS,gE h];rfl
theorem ZT:∀l:List BB,(∀y∈l,y.length≤10000000)→(kR l).length≤10000002 * l.length
 | [],_=>by simp [kR]
 | y::l,h=>by
  have h1:=h y (jR ..);have h2:=ZT l fun y hy=>h y (kD _ hy)
  simp only [kR,HB,eu,gk,jB] at h2 ⊢;omega
theorem akh {l:List BB} {i:Nat} (h:i < l.length):kR (l.take (i+1))=kR (l.take i)++[44,32]++l[i]:=by
 unfold kR;rw [uM,gE h,List.flatMap_append,show List.flatMap (fun y=>[44,32]++y) (some l[i]).toList=[44,32]++l[i] by simp,←ek]
theorem ZU (q:Nat) (hm:2≤m) (b:Bool) (l:List BB) (hl:l.length≤200) (hy:∀y∈l,y.length≤10000000) (t:BB) (ht:t++kR l≠[]) (sI:t.length≤10000000):∀(k i:Nat),l.length - i < k→i≤l.length→
  xI (T m) (q+1) k [44,32] (BW (t++kR (l.take i))) b (strs l) (ae l.length) (i:Int)=some (.one (sC (t++kR l)),[])
 | 0,i,h,_=>by omega
 | k+1,i,h,hi=>by
  have h8:=ZT (l.take i) fun y fR=>hy y (DT fR)
  rw [AU] at h8;have h9:min i l.length≤200:=by omega
  rw [ane];by_cases af:i < l.length
  ·have ih:=ZU q hm b l hl hy t ht sI k (i+1) (by omega) (by omega);have hyi:=hy l[i] (bM af);refine dD (aY (by rw [bI];omega)) (iI (v:=(l[i],())) rfl (adG af) (by simp) rfl ?_);dsimp only;refine qU hm (by simp;omega) fun _=>dD rfl (qU hm (by simp;omega) fun _=>dD rfl ?_)
   dsimp only;rw [wI i];rw [akh af] at ih;rw [ek,ek,←ek (kR (l.take i))];exact ih
  ·obtain rfl:i=l.length:=by omega
   rw [AX] at h8 ⊢;refine bU (bV (by rw [bI];omega)) (OF hm ht (by simp;omega) rfl)
theorem adH (q:Nat) (hm:2≤m) (b:Bool) (x:BB) (l:List BB) (hx:x++kR l≠[]) (hl:l.length≤200) (hy:∀y∈x::l,y.length≤10000000) (hq:l.length≤q):∀(k i s:Nat),l.length+1 - i < k→i≤l.length+1→1≤s→s≤1000+10000000 * i→
  Lq (T m) (q+1) k b (strs (x::l)) [44,32] (s:Int) b (strs (x::l)) (ae (strs (x::l)).length) (i:Int)=some (.one (sC (ik (x::l))),[])
 | 0,i,s,h,_,_,_=>by omega
 | k+1,i,s,h,hi,h1,hs=>by
  rw [anf];have hlen:ae (strs (x::l)).length=((l.length+1:Nat):Int):=by simp [ae]
  by_cases af:i < (x::l).length
  ·have hyi:=hy (x::l)[i] (bM af);have zA:i < l.length+1:=by simpa using af
   have hw:ak (9223372036854775807 - (s:Int))=9223372036854775807 - (s:Int):=DL (by omega) (by omega);have ih:=adH q hm b x l hx hl hy hq k (i+1) (s+(x::l)[i].length) (by omega) (by omega) (by omega) (by omega);refine dD (by rw [hlen];exact aY (by omega)) (iI (v:=((x::l)[i],())) rfl (adG af) (by simp) rfl ?_);dsimp only;refine bU (by rw [hw];exact bV (by rw [bI];omega)) ?_;rw [wI i,show ak ((s:Int)+ae (x::l)[i].length)=((s+(x::l)[i].length:Nat):Int) from gM (by rw [bI];omega) (by omega)];exact ih
  ·have vE:=hy x (jR ..);have zA:¬ i < l.length+1:=by simpa using af
   refine bU (by rw [hlen];exact bV (by omega)) (afA (by omega) h1 (by omega) (qo (b:=[.str x]) rfl (eg rfl ?_)));show dv (T m) x (BW []) _=_;refine qU hm (by simp;omega) fun _=>dD rfl (eg ?_ ?_)
   ·simp
   ·have hd:List.take ((strs (x::l)).length - Int.toNat 1) (List.drop 1 (strs (x::l)))=strs l:=by
     show List.take ((strs l).length+1 - 1) (strs l)=_;rw [Nat.add_sub_cancel,AX]
    rw [hd,show ae (strs l).length=ae l.length by rw [cy]];have:=ZU q hm b l hl (fun y h=>hy y (kD _ h)) x hx (by omega) (q+1) 0 (by omega) (by omega);rw [show kR (l.take 0)=[] from rfl,mJ] at this;exact this
theorem Oz {l:List BB} (hm:l.length+10≤m) (b:Bool) (hl:l.length≤200) (hy:∀y∈l,y.length≤10000000) {K:BB×Unit→OR} (h:K (ik l,())=z):oo (T m) b (strs l) [44,32] K=z:=by
 obtain ⟨m,rfl⟩:=bm 2 m;cases l with
 | nil=>exact tf (Xt _ (dD rfl rfl)) h
 | cons x l=>
  refine tf (Xt _ ?_) h;cases l with
  | nil=>exact bU rfl (dD rfl (qo (b:=[.str x]) rfl (eg rfl (by rw [show ik [x]=x from mJ x];rfl))))
  | cons y l=>
   have hlen:ae (strs (x::y::l)).length=((l.length+2:Nat):Int):=by simp [ae];omega
   have fW:l.length+2≤200:=by simpa using hl
   have Y':l.length+2+10≤m+2:=by simpa using hm
   have hw:ak (ae (strs (x::y::l)).length - 1)=((l.length+1:Nat):Int):=by rw [hlen];exact gM
   refine bU (by rw [hlen];exact nE.2 (by omega)) (bU (by rw [hlen];exact nE.2 (by omega)) (dD rfl (eg ?_ (bU ?_ ?_))))
   ·rw [hw];simp;omega
   ·rw [hw];have h3:2 < Int.tdiv 9223372036854775807 ((l.length+1:Nat):Int):=by
     rw [M8 (by omega)];have:(3:Int)≤9223372036854775807 / ((l.length+1:Nat):Int):=Int.le_ediv_of_mul_le (by omega) (by omega);omega
    have h4:Int.tdiv 9223372036854775807 ((l.length+1:Nat):Int)≤9223372036854775807:=by
     rw [M8 (by omega)];exact Int.ediv_le_self _ (by omega)
    rw [DL (by omega) h4];exact bV (by show ¬ ((2:Int)≥_);omega)
   ·rw [ang,anh,hw]
    rw [show ak (0 + ak (ae (List.length ([44, 32] : BB)) * ((l.length + 1 : Nat) : Int))) = ((2 * (l.length + 1) : Nat) : Int) by
      rw [show ae (List.length ([44, 32] : BB)) = 2 from rfl, show ak ((2 : Int) * ((l.length + 1 : Nat) : Int)) = ((2 * (l.length + 1) : Nat) : Int) from gM]
      exact gM]
    exact adH m (by omega) b x (y::l) (by simp [kR]) (by simp;omega) hy (by simp;omega) (m+1) 0 (2 * (l.length+1)) (by simp;omega) (by omega) (by omega) (by omega)
theorem W5 (hm:70≤m) {l:List BB} (b:Bool) (h1:l≠[]) (az:∀y∈l,y≠[]) (hl:l.length≤50) (hy:∀y∈l,y.length≤100) {K:BB×Unit→OR} (h:K (ik l,())=z):oo (T m) b (strs l) [44,32] K=z:=
 Oz (by omega) b (by omega) (fun y fR=>by have:=hy y fR;omega) h
end
end
section
open Go Go.ax
def uU (x:AM):BB:=x.mw++[40]++ma x.kd x.nm++[41,32]++dg x.nx
def nG (l:List AM):BB:=[32,123,32]++ik (l.map uU)++[32,125]
def pM (i:Nat) (p:PT):BB:=([32,32]++dg i++[58,32])++(if p.ms=[] then [101,110,100,10] else p.fr++[32,45,62,32]++p.to++nG p.ms++[10])
def xZ:Nat→List PT→BB
 | _,[]=>[125,10]
 | i,p::t=>pM i p++xZ (i+1) t
def pL (nm:BB) (M:Nat) (ps:List PT):BB:=([112,114,111,116,111,99,111,108,32]++nm++[32,114,111,108,101,115,32]++ik ((List.range M).map bJ)++[32,123,10])++xZ 0 ps
def pR (i:Nat) (p:TN):BB:=([32,32]++dg i++[58,32])++(if p.ms=[] then [101,110,100,10] else if p.kd=1 then [116,111,32]++p.pr++nG p.ms++[10] else [102,114,111,109,32]++p.pr++nG p.ms++[10])
def wy:Nat→List TN→BB
 | _,[]=>[125,10]
 | i,p::t=>pR i p++wy (i+1) t
def vK (ts:List TN):BB:=([108,111,99,97,108,32]++[122,122]++[32,123,10])++wy 0 ts
theorem RB {x:BB} (h:x∈qt):x.length≤2:=by
 simp only [qt,gT,nD,nF] at h;rcases h with rfl | rfl | rfl | rfl | rfl<;>decide
theorem Ir {k:Int} {x:BB} (h:(k,x)∈iS):(ma k x).length≤8:=by
 simp only [iS,gT,nD,nF,fL] at h;rcases h with ⟨rfl,rfl⟩ | ⟨rfl,rfl⟩ | ⟨rfl,rfl⟩ | ⟨rfl,rfl⟩ | ⟨rfl,rfl⟩ | ⟨rfl,rfl⟩ | ⟨rfl,rfl⟩ | ⟨rfl,rfl⟩ | ⟨rfl,rfl⟩ | ⟨rfl,rfl⟩ | ⟨rfl,rfl⟩ | ⟨rfl,rfl⟩ | ⟨rfl,rfl⟩<;>decide
theorem OO (k:Nat):(dg k).length=1:=rfl
theorem NN {P:Nat} {x:AM} (h:Al P x):(uU x).length≤14:=by
 have:=RB h.1;have:=Ir h.2.1;simp only [uU,eu,gk,jB,OO];omega
theorem Re (l:List BB) (h:∀y∈l,y.length≤14):(ik l).length≤16 * l.length:=by
 cases l with
 | nil=>simp [ik]
 | cons x l=>
  have h1:=h x (jR ..);have h2:∀l:List BB,(∀y∈l,y.length≤14)→(kR l).length≤16 * l.length:=by
   intro l;induction l with
   | nil=>intro _;simp [kR]
   | cons y l ih=>
    intro h;have h1:=h y (jR ..);have h2:=ih fun y hy=>h y (kD _ hy)
    simp only [kR,HB,eu,gk,jB] at h2 ⊢;omega
  have:=h2 l fun y hy=>h y (kD _ hy)
  simp only [ik,eu,gk];omega
theorem Ee {P:Nat} {l:List AM} (h:nc P l):(nG l).length≤60:=by
 have h1 := Re (l.map uU) (by
   intro y hy
   rw [iz] at hy
   obtain ⟨x, hx, rfl⟩ := hy
   exact NN (h.2.2.2 x hx))
 have:=h.2.1;rw [cy] at h1;simp only [nG,eu,gk,jB];omega
section
variable {m:Nat} {z:OR}
theorem Iv (hm:20≤m) {k:Nat} (hk:k < 10) {K:BB×Unit→OR} (h:K (dg k,())=z):Em (T m) (k:Int) K=z:=tf (akg m hm hk) h
theorem IF (hm:80≤m) {k:Int} {x:BB} (hx:(k,x)∈iS) {K:BB×Unit→OR} (h:K (ma k x,())=z):Be (T m) k x K=z:=tf (abK m hm hx) h
theorem abG (q:Nat) (hm:80≤m) (b:Bool) {P:Nat} (hP:P≤10) {l:List AM} (aQ:nc P l):∀(k i:Nat),l.length - i < k→i≤l.length→
  J6 (T m) (q+1) k (strs ((l.take i).map uU)) b (l.map cM) (ae (l.map cM).length) (i:Int)=some (.one (sC (nG l)),[])
 | 0,i,h,_=>by omega
 | k+1,i,h,hi=>by
  have h3:=aQ.2.1;rw [akE];by_cases af:i < l.length
  ·have ih:=abG q hm b hP aQ k (i+1) (by omega) (by omega);have hg:l[i]? = some l[i]:=gE af;obtain ⟨o1,o2,o3⟩:=aQ.2.2.2 l[i] (bM af);have n1:=RB o1;have n2:=Ir o2;rw [uM,hg] at ih;refine dD (aY (by rw [bI,cy];omega)) (iI (v:=(l[i].mw,l[i].kd,l[i].nm,(l[i].nx:Int),())) rfl (Pr hg) (by simp [cM]) rfl ?_);dsimp only;refine eg (aY (by omega)) (IF hm o2 (jo (by simp;omega) (jo (by simp;omega) (Iv (by omega) (by omega) (jo (by simp [dg];omega) (eg (room (by simp;omega) (by omega)) ?_))))));dsimp only;rw [du,uB,wI i];rw [eB,show ∀a b:List BB,strs (a++b)=strs a++strs b from fun a b=>eB] at ih;exact ih
  ·obtain rfl:i=l.length:=by omega
   have hj := Re (l.map uU) (by
     intro y hy
     rw [iz] at hy
     obtain ⟨x, hx, rfl⟩ := hy
     exact NN (aQ.2.2.2 x hx))
   rw [cy] at hj;rw [AX];refine bU (bV (by rw [bI,cy];omega)) (eg (g2 _) ?_);rw [du,SC];refine W5 (by omega) false ?_ ?_ (by simp;omega) ?_ (eg (aY ?_) (jo ?_ rfl))
   ·have:=aQ.1;intro e;rw [List.map_eq_nil_iff] at e;rw [e] at this;simp at this
   ·intro y hy;rw [iz] at hy;obtain ⟨x,hx,rfl⟩:=hy;simp [uU]
   ·intro y hy;rw [iz] at hy;obtain ⟨x,hx,rfl⟩:=hy;have:=NN (aQ.2.2.2 x hx);omega
   ·dsimp only;omega
   ·simp;omega
theorem OE (hm:100≤m) (b:Bool) {P:Nat} (hP:P≤10) {l:List AM} (aQ:nc P l) {K:BB×Unit→OR} (h:K (nG l,())=z):yR (T m) b (l.map cM) K=z:=by
 obtain ⟨m,rfl⟩:=bm 2 m;refine tf (af9 _ ?_) h;have h1:=aQ.1;have af:0 < l.length:=by omega
 have hg:l[0]? = some l[0]:=gE af;obtain ⟨o1,o2,o3⟩:=aQ.2.2.2 l[0] (bM af);have n1:=RB o1;have n2:=Ir o2;have h3:=aQ.2.1;rw [akD];refine dD (aY (by rw [bI,cy];omega)) (iI (i:=0) (v:=(l[0].mw,l[0].kd,l[0].nm,(l[0].nx:Int),())) rfl (Pr hg) (by simp [cM]) rfl ?_);dsimp only;refine eg (aY (by omega)) (IF (by omega) o2 (jo (by simp;omega) (jo (by simp;omega) (Iv (by omega) (by omega) (jo (by simp [dg];omega) (eg rfl ?_))))));dsimp only;have:=abG (m:=m+1) m (by omega) b hP aQ m 1 (by omega) (by omega);rw [uM,hg] at this;exact this
theorem aoI {P many i:Nat} {p:PT} (h:rq P many p):(pM i p).length≤80:=by
 rcases h with ⟨p1,p2,p3⟩ | ⟨k1,k2,q1,q2,q3,p1,p2,p3⟩
 ·simp [pM,p3,dg]
 ·have:=Ee p3;have h1:p.fr.length=1:=by rw [p1];rfl
  have h2:p.to.length=1:=by rw [p2];rfl
  have h3:p.ms≠[]:=by
   intro e;have:=p3.1;rw [e] at this;simp at this
  simp only [pM,h3,dE,eu,gk,jB,OO];omega
theorem acb (q:Nat) (hm:110≤m) (b:Bool) {P many:Nat} (hP:P≤10) {l:List PT} (hl:l.length≤10) (aQ:∀p∈l,rq P many p):∀(k i:Nat) (t:BB),l.length - i < k→i≤l.length→t≠[]→t.length≤100+80 * i→
  rh (T m) (q+1) k (BW t) b (l.map cP) (ae (l.map cP).length) (i:Int)=some (.one (sC (t++xZ i (l.drop i))),[])
 | 0,i,t,h,_,_,_=>by omega
 | k+1,i,t,h,hi,ht,sI=>by
  rw [akA];by_cases af:i < l.length
  ·have hg:l[i]? = some l[i]:=gE af;have hd:l.drop i=l[i]::l.drop (i+1):=tA af;have hp:=aQ l[i] (bM af);have cK:=aoI (i:=i) hp;have ih:=acb q hm b hP hl aQ k (i+1) (t++pM i l[i]) (by omega) (by omega) (by simp [ht]) (by simp only [eu];omega);have hw:=wI i;rw [ek] at ih;refine dD (aY (by rw [bI,cy];omega)) (iI (v:=(l[i].fr,l[i].to,(l[i].t,l[i].ms.map cM),())) rfl (Ps hg) (by simp [cP]) (by simp [cP,dV,kq]) ?_);dsimp only;refine Iv (by omega) (by omega) (eg (aY (by simp [dg])) (jo (by simp [dg]) (qU (by omega) (by simp [dg];omega) fun _=>dD rfl ?_)));dsimp only;rw [hw,hd,show xZ i (l[i]::l.drop (i+1))=pM i l[i]++xZ (i+1) (l.drop (i+1)) from rfl];rcases hp with ⟨p1,p2,p3⟩ | ⟨k1,k2,q1,q2,q3,p1,p2,p3⟩
   ·rw [show pM i l[i]=([32,32]++dg i++[58,32])++[101,110,100,10] by simp only [pM,p3,bW]] at ih ⊢;rw [←ek t] at ih;refine dD (by rw [p3];rfl) (qU (by omega) (by simp [dg];omega) fun _=>dD rfl ?_);exact ih
   ·have h3:l[i].ms≠[]:=by
     intro e;have:=p3.1;rw [e] at this;simp at this
    have ve:=Ee p3;have h1:l[i].fr.length=1:=by rw [p1];rfl
    have h2:l[i].to.length=1:=by rw [p2];rfl
    rw [show pM i l[i]=([32,32]++dg i++[58,32])++(l[i].fr++[32,45,62,32]++l[i].to++nG l[i].ms++[10]) by simp only [pM,h3,dE]] at ih ⊢;rw [←ek t] at ih;refine bU ?_ (jo (by omega) (jo (by simp;omega) (OE (by omega) _ hP p3 (jo (by simp;omega) (jo (by simp;omega) (qU (by omega) (by simp [dg];omega) fun _=>dD rfl ?_))))))
    ·rw [bI,cy];exact nE.2 (by have:=p3.1;omega)
    ·exact ih
  ·obtain rfl:i=l.length:=by omega
   rw [List.drop_length];refine bU (bV (by rw [bI,cy];omega)) (qU (by omega) (by simp;omega) fun _=>dD rfl ?_);exact OF (by omega) (by simp) (by simp;omega) rfl
theorem afK {nm:BB} (sG:nm∈lR) (nO:nm.length≤1) (hm:130≤m) (b2 b:Bool) {many:Nat} {l:List PT} (h:kU many l) {K:BB×Unit→OR} (hK:K (pL nm many l,())=z):Wm (T m) nm b2 (c8 many) b (l.map cP) K=z:=by
 obtain ⟨m,rfl⟩:=bm 2 m;have hr:c8 many=strs ((List.range many).map bJ):=by simp [c8,strs]
 have Jt:=h.2.1;have dW:=h.1
 have hj := Re ((List.range many).map bJ) (by
   intro y hy
   rw [iz] at hy
   obtain ⟨x, hx, rfl⟩ := hy
   simp [bJ])
 rw [cy,UT] at hj;refine tf (af7 _ (oc (Yu sG (m+1) (by omega) b2 b h) (bU rfl (jo (by first | omega | (simp;omega)) (jo (by first | omega | (simp;omega)) ?_))))) hK;rw [hr];refine W5 (by omega) b2 ?_ ?_ (by simp;omega) ?_ (jo ?_ (jo ?_ (Xd (by omega) ?_ ?_ fun _=>dD rfl ?_)))
 ·intro e;rw [List.map_eq_nil_iff,List.range_eq_nil] at e;omega
 ·intro y hy;rw [iz] at hy;obtain ⟨x,hx,rfl⟩:=hy;simp [bJ]
 ·intro y hy;rw [iz] at hy;obtain ⟨x,hx,rfl⟩:=hy;simp [bJ]
 ·simp;omega
 ·simp;omega
 ·simp
 ·simp;omega
 ·have:=acb (m:=m+1) m (by omega) b (P:=l.length) (many:=many) (by have:=h.2.2.2.1;omega) (l:=l) (by have:=h.2.2.2.1;omega) h.2.2.2.2 (m+1) 0
   ([112,114,111,116,111,99,111,108,32]++nm++[32,114,111,108,101,115,32]++ik ((List.range many).map bJ)++[32,123,10]) (by have:=h.2.2.2.1;omega) (by omega) (by simp) (by simp;omega)
  rw [AT] at this;exact this
theorem adM {P i:Nat} {p:TN} (h:C8 P p):(pR i p).length≤80:=by
 rcases h with ⟨p1,p2,p3⟩ | ⟨p1,⟨k,p2,p3⟩,p4⟩
 ·simp [pR,p3,dg]
 ·have:=Ee p4;have h1:p.pr.length=1:=by rw [p3];rfl
  have h3:p.ms≠[]:=by
   intro e;have:=p4.1;rw [e] at this;simp at this
  simp only [pR,h3,dE,eu,gk,jB,OO];split<;>simp only [eu,gk,jB]<;>omega
theorem adN (q:Nat) (hm:110≤m) (b:Bool) {P:Nat} (hP:P≤10) {l:List TN} (hl:l.length≤10) (aQ:∀p∈l,C8 P p):∀(k i:Nat) (t:BB),l.length - i < k→i≤l.length→t≠[]→t.length≤100+80 * i→
  mu (T m) (q+1) k (BW t) b (l.map cN) (ae (l.map cN).length) (i:Int)=some (.one (sC (t++wy i (l.drop i))),[])
 | 0,i,t,h,_,_,_=>by omega
 | k+1,i,t,h,hi,ht,sI=>by
  rw [aky];by_cases af:i < l.length
  ·have hg:l[i]? = some l[i]:=gE af;have hd:l.drop i=l[i]::l.drop (i+1):=tA af;have hp:=aQ l[i] (bM af);have cK:=adM (i:=i) hp;have ih:=adN q hm b hP hl aQ k (i+1) (t++pR i l[i]) (by omega) (by omega) (by simp [ht]) (by simp only [eu];omega);have hw:=wI i;rw [ek] at ih;refine dD (aY (by rw [bI,cy];omega)) (iI (v:=(l[i].kd,l[i].pr,(l[i].t,l[i].ms.map cM),())) rfl (Yr hg) (by simp [cN]) (by simp [cN,dV,kq]) ?_);dsimp only;refine Iv (by omega) (by omega) (eg (aY (by simp [dg])) (jo (by simp [dg]) (qU (by omega) (by simp [dg];omega) fun _=>dD rfl ?_)));dsimp only;rw [hw,hd,show wy i (l[i]::l.drop (i+1))=pR i l[i]++wy (i+1) (l.drop (i+1)) from rfl];rcases hp with ⟨p1,p2,p3⟩ | ⟨p1,⟨k1,p2,p3⟩,p4⟩
   ·rw [show pR i l[i]=([32,32]++dg i++[58,32])++[101,110,100,10] by simp only [pR,p3,bW]] at ih ⊢;rw [←ek t] at ih;refine dD (by rw [p1];rfl) (qU (by omega) (by simp [dg];omega) fun _=>dD rfl ?_);exact ih
   ·have h3:l[i].ms≠[]:=by
     intro e;have:=p4.1;rw [e] at this;simp at this
    have ve:=Ee p4;have h1:l[i].pr.length=1:=by rw [p3];rfl
    rcases p1 with p1 | p1
    ·rw [show pR i l[i]=([32,32]++dg i++[58,32])++([116,111,32]++l[i].pr++nG l[i].ms++[10]) by simp only [pR,h3,dE,p1,bW]] at ih ⊢;rw [←ek t] at ih;refine bU (by rw [p1];rfl) (dD (by rw [p1];rfl) (jo (by omega) (OE (by omega) _ hP p4 (jo (by simp;omega) (jo (by simp;omega) (qU (by omega) (by simp [dg];omega) fun _=>dD rfl ?_))))));exact ih
    ·rw [show pR i l[i]=([32,32]++dg i++[58,32])++([102,114,111,109,32]++l[i].pr++nG l[i].ms++[10]) by simp [pR,h3,p1]] at ih ⊢;rw [←ek t] at ih;refine bU (by rw [p1];rfl) (bU (by rw [p1];rfl) (dD (by rw [p1];rfl) (jo (by omega) (OE (by omega) _ hP p4 (jo (by simp;omega) (jo (by simp;omega) (qU (by omega) (by simp [dg];omega) fun _=>dD rfl ?_)))))));exact ih
  ·obtain rfl:i=l.length:=by omega
   rw [List.drop_length];refine bU (bV (by rw [bI,cy];omega)) (qU (by omega) (by simp;omega) fun _=>dD rfl ?_);exact OF (by omega) (by simp) (by simp;omega) rfl
theorem afE (hm:130≤m) (b:Bool) {l:List TN} (h:Ak l) {K:BB×Unit→OR} (hK:K (vK l,())=z):c21 (T m) [122,122] b (l.map cN) K=z:=by
 obtain ⟨m,rfl⟩:=bm 2 m;have hl:=h.2.1;refine tf (af6 _ (oc (MN (m+1) (by omega) b _ h.1 (by omega) fun p hp=>abl (h.2.2 p hp)) (bU rfl (oc (vL (m+1) (by omega) (by decide)) (bU rfl ?_))))) hK;rw [akz];refine jo (show (8:Nat)≤100000000000000 by decide) (jo (show (11:Nat)≤100000000000000 by decide) (Xd (by omega) (by simp) (by simp) fun _=>dD rfl ?_));have:=adN (m:=m+1) m (by omega) b (P:=l.length) (by omega) (l:=l) (by omega) h.2.2 (m+1) 0
  ([108,111,99,97,108,32]++[122,122]++[32,123,10]) (by omega) (by omega) (by simp) (by simp)
 rw [AT] at this;exact this
end
end
end Go.Proofs.YtfmpdgeiodnnfaaGreatDoor.QQ
namespace Go.Proofs.YtfmpdgeiodnnfaaGreatDoor
section
open Go Go.ax QQ
structure TM where
 kd:Int
 nm:BB
 n:Int
 tx:BB
 l:Int
 r:Int
def bA (t:TM):List D:=[.int .i64 t.kd,.str t.nm,.int .i64 t.n,.str t.tx,.int .i64 t.l,.int .i64 t.r]
structure SR where
 kd:Int
 nm:BB
 pr:BB
 lb:BB
 pc:BB
 tm:Int
 gt:Bool
 ag:RR
 ct:Bool
 cs:RR
 wt:Tag
 ws:RR
 nx:Int
def cS (s:SR):List D:=[.int .i64 s.kd,.str s.nm,.str s.pr,.str s.lb,.str s.pc,.int .i64 s.tm,.sl (.im s.gt) 1 s.ag,.sl (.im s.ct) 3 s.cs,.sl s.wt 3 s.ws,.int .i64 s.nx]
structure PR where
 nm:BB
 rt:Bool
 rs:List BB
 pt:Bool
 il:RR
def di (p:PR):List D:=[.str p.nm,.sl (.im p.rt) 1 (p.rs.map fun s=>[.str s]),.sl (.im p.pt) 3 p.il]
theorem S4:∀a:PR,1+1≤(di a).length∧dV [DS.im 1] (List.take 1 (List.drop 1 (di a)))=some ((fun p=>((p.rt,p.rs.map fun s=>[.str s]),())) a):=(fun a=>⟨by simp [di],rfl⟩)
theorem Au:∀a:PR,0+3≤(di a).length∧dV eb (List.take 3 (List.drop 0 (di a)))=some ((fun p=>(p.nm,(p.rt,p.rs.map fun s=>[.str s]),(p.pt,p.il),())) a):=(fun a=>⟨by simp [di],rfl⟩)
structure LR where
 nm:BB
 tb:Bool
 ts:List TN
def mP (l:LR):List D:=[.str l.nm,.sl (.im l.tb) 3 (l.ts.map cN)]
theorem aco:∀a:LR,0+1≤(mP a).length∧dV [DS.str] (List.take 1 (List.drop 0 (mP a)))=some ((fun l=>(l.nm,())) a):=(fun a=>⟨by simp [mP],rfl⟩)
theorem S5:∀a:LR,1+1≤(mP a).length∧dV [DS.im 3] (List.take 1 (List.drop 1 (mP a)))=some ((fun l=>((l.tb,l.ts.map cN),())) a):=(fun a=>⟨by simp [mP],rfl⟩)
structure WK where
 pb:Bool
 ps:List PR
 nm:BB
 pm:Tag×RR
 self:BB
 yb:Bool
 ty:List LR
 role:Int
def Wr (k:WK) (tt:Tag) (tm:RR) (st:Tag) (ss:RR) (nz rm:Int):au aR:=((),(k.pb,k.ps.map di),k.nm,k.pm,(tt,tm),(st,ss),k.self,(k.yb,k.ty.map mP),k.role,nz,rm,())
def W (k:WK) (tt:Tag) (tm:List TM) (st:Tag) (ss:List SR) (nz rm:Int):au aR:=((),(k.pb,k.ps.map di),k.nm,k.pm,(tt,tm.map bA),(st,ss.map cS),k.self,(k.yb,k.ty.map mP),k.role,nz,rm,())
def Wt (k:WK) (tm:List TM) (st:Tag) (ss:List SR) (nz rm:Int):au ac9:=((),(k.pb,k.ps.map di),k.nm,k.pm,tm.map bA,(st,ss.map cS),k.self,(k.yb,k.ty.map mP),k.role,nz,rm,())
def Ws (k:WK) (tt:Tag) (tm:List TM) (ss:List SR) (nz rm:Int):au ac':=((),(k.pb,k.ps.map di),k.nm,k.pm,(tt,tm.map bA),ss.map cS,k.self,(k.yb,k.ty.map mP),k.role,nz,rm,())
def qN {X:Type} (t:Tag) (l:List X):Prop:=t = .own∨(t = .im true∧l=[])
theorem bH {rs:RS} {o x:OR} {K:rs.T→OR} {Q:V→List (List C)→Prop} (f:∀r,x=some r→o=some r) (h:Wp x (J rs K Q)):Wp (aH rs o K) Q:=by
 obtain ⟨v,bs,e,q⟩:=h;rw [f _ e];exact q
theorem aE {rs:RS} {v:V} {bs:List (List C)} {x:rs.T} {K:rs.T→OR} {Q:V→List (List C)→Prop} (hd:ig rs (v,bs)=some x) (h:Wp (K x) Q):Wp (aH rs (some (v,bs)) K) Q:=by
 have e:aH rs (some (v,bs)) K=K x:=by simp only [aH,hd]
 rw [e];exact h
theorem ke {rs:RS} {o:OR} {v:V} {bs:List (List C)} {x:rs.T} {K:rs.T→OR} {Q:V→List (List C)→Prop} (ho:o=some (v,bs)) (hd:ig rs (v,bs)=some x) (h:Wp (K x) Q):Wp (aH rs o K) Q:=by
 rw [ho];exact aE hd h
section
variable {m:Nat} {Q:V→List (List C)→Prop} {k:WK} {tt st:Tag} {tm:List TM} {ss:List SR} {nz rm:Int} {d:au ao}
theorem gX {n k:Nat} (h:n≤100000000000) (hk:k≤1000):(n==n&&true&&decide ((n+1) * k≤140737488355328))=true:=by
 have:(n+1) * k≤(100000000000+1) * 1000:=U3 (by omega) hk;simp;omega
theorem jQ (hm:4≤m) {n:Nat} (h1:1≤n) (h2:n≤1000000) (hd:cQ d) {K:acL.T→OR} (h:∀(j:Nat) d',j < n→cQ d'→Wp (K ((j:Int),d',())) Q):Wp (ef (T m) (n:Int) d K) Q:=by
 obtain ⟨j,d',hj,dq,e⟩:=pick m (by omega) h1 h2 hd;exact ke e (by simp only [ig,pn,u3,IH];rfl) (h j d' hj dq)
theorem mI (hm:1≤m) {z:Int} {K:G8.T→OR} (h:Wp (K ((z,[],[],[],[],-1,(true,[]),(true,[]),(true,[]),-1,()),())) Q):Wp (kj (T m) z K) Q:=by
 obtain ⟨m,rfl⟩:=cE hm;exact bH agt (aA (aE rfl h))
theorem AK (hm:4≤m) (hN:tm.length≤100000000) (ho:qN tt tm) {a:Int} {b:BB} {c:Int} {e:BB} {f g:Int} {K:pO.T→OR}
  (h:Wp (K ((tm.length:Int),Wt k (tm++[⟨a,b,c,e,f,g⟩]) st ss nz rm,d,())) Q):Wp (wV (T m) a b c e f g (W k tt tm st ss nz rm) d K) Q:=by
 obtain ⟨m,rfl⟩:=bm 2 m;have hw:ak (ae ((tm++[TM.mk a b c e f g]).map bA).length - 1)=(tm.length:Int):=gM (by rw [bI];simp) (by omega);refine bH agL ?_;have fin:Wp (Rq (T (m+1)) (m+1) (W k tt tm st ss nz rm) d (m+1) (W k .own (tm++[⟨a,b,c,e,f,g⟩]) st ss nz rm) d (a,b,c,e,f,g,())) (J pO K Q):=by
  rw [ald];refine jb (aA ?_);refine aE (x:=((tm.length:Int),Wt k (tm++[⟨a,b,c,e,f,g⟩]) st ss nz rm,d,())) ?_ h;show ig pO (.one (iC (ak (ae ((tm++[TM.mk a b c e f g]).map bA).length - 1))),_)=_;rw [hw];rfl
 rcases ho with rfl | ⟨rfl,rfl⟩
 ·refine jb (aF (gX (by simp [W];omega) (by omega)) ?_);have e1:(W k .own (tm++[⟨a,b,c,e,f,g⟩]) st ss nz rm)=((),(W k .own tm st ss nz rm).2.1,(W k .own tm st ss nz rm).2.2.1,(W k .own tm st ss nz rm).2.2.2.1,(.own,(tm.map bA)++[[.int .i64 a,.str b,.int .i64 c,.str e,.int .i64 f,.int .i64 g]]),(W k .own tm st ss nz rm).2.2.2.2.2):=by simp [W,bA]
  rw [e1] at fin;exact fin
 ·exact eZ (aF rfl fin)
theorem rP (hm:5≤m) (hN:tm.length≤100000000) (ho:qN tt tm) {b:BB} {K:pO.T→OR}
  (h:Wp (K ((tm.length:Int),Wt k (tm++[⟨0,b,0,[],-1,-1⟩]) st ss nz rm,d,())) Q):Wp (c87 (T m) b (W k tt tm st ss nz rm) d K) Q:=by
 obtain ⟨m,rfl⟩:=cE hm;refine bH agD (AK (by omega) hN ho (aA ?_));exact aE (x:=((tm.length:Int),Wt k (tm++[⟨0,b,0,[],-1,-1⟩]) st ss nz rm,d,())) rfl h
theorem w_num (hm:5≤m) (hN:tm.length≤100000000) (ho:qN tt tm) {b:Int} {K:pO.T→OR}
  (h:Wp (K ((tm.length:Int),Wt k (tm++[⟨1,[],b,[],-1,-1⟩]) st ss nz rm,d,())) Q):Wp (pk (T m) b (W k tt tm st ss nz rm) d K) Q:=by
 obtain ⟨m,rfl⟩:=cE hm;refine bH agE (AK (by omega) hN ho (aA ?_));exact aE (x:=((tm.length:Int),Wt k (tm++[⟨1,[],b,[],-1,-1⟩]) st ss nz rm,d,())) rfl h
theorem yv (hm:5≤m) (hN:tm.length≤100000000) (ho:qN tt tm) {a b c:Int} {K:pO.T→OR}
  (h:Wp (K ((tm.length:Int),Wt k (tm++[⟨a,[],0,[],b,c⟩]) st ss nz rm,d,())) Q):Wp (r8 (T m) a b c (W k tt tm st ss nz rm) d K) Q:=by
 obtain ⟨m,rfl⟩:=cE hm;refine bH agv (AK (by omega) hN ho (aA ?_));exact aE (x:=((tm.length:Int),Wt k (tm++[⟨a,[],0,[],b,c⟩]) st ss nz rm,d,())) rfl h
theorem wD (hm:4≤m) (hN:ss.length≤100000000) (ho:qN st ss) (jX : -100000000≤rm) (pB:rm≤100000000) {x0:Int} {x1 x2 x3 x4:BB} {x5:Int} {x6:Bool} {x7:RR} {x8:Bool} {x9:RR} {cu:Bool} {bL:RR} {ec:Int} {K:Ax.T→OR}
  (h:Wp (K ((ss.length:Int),Ws k tt tm (ss++[⟨x0,x1,x2,x3,x4,x5,x6,x7,x8,x9,.im cu,bL,-1⟩]) nz (rm - 1),d,())) Q):Wp (qR (T m) x0 x1 x2 x3 x4 x5 x6 x7 x8 x9 cu bL ec (W k tt tm st ss nz rm) d K) Q:=by
 obtain ⟨m,rfl⟩:=bm 2 m;have hw:ak (ae ((ss++[SR.mk x0 x1 x2 x3 x4 x5 x6 x7 x8 x9 (.im cu) bL (-1)]).map cS).length - 1)=(ss.length:Int):=gM (by rw [bI];simp) (by omega);have mq:ak (rm - 1)=rm - 1:=DL (by omega) (by omega);refine bH agK ?_;have fin:Wp (Rp (T (m+1)) (m+1) (W k tt tm st ss nz rm) d (m+1) (W k tt tm .own (ss++[⟨x0,x1,x2,x3,x4,x5,x6,x7,x8,x9,.im cu,bL,-1⟩]) nz rm) d (x0,x1,x2,x3,x4,x5,(.im x6,x7),(.im x8,x9),(.im cu,bL),-1,())) (J Ax K Q):=by
  rw [alc];refine jb (aA ?_);refine aE (x:=((ss.length:Int),Ws k tt tm (ss++[⟨x0,x1,x2,x3,x4,x5,x6,x7,x8,x9,.im cu,bL,-1⟩]) nz (rm - 1),d,())) ?_ h;show ig Ax (.one (iC (ak (ae ((ss++[SR.mk x0 x1 x2 x3 x4 x5 x6 x7 x8 x9 (.im cu) bL (-1)]).map cS).length - 1))),[bx aR (W k tt tm .own _ nz (ak (rm - 1))),_])=_;rw [hw,mq];rfl
 rcases ho with rfl | ⟨rfl,rfl⟩
 ·refine jb (aF (gX (by simp [W];omega) (by omega)) ?_);have e1:(W k tt tm .own (ss++[⟨x0,x1,x2,x3,x4,x5,x6,x7,x8,x9,.im cu,bL,-1⟩]) nz rm)=((),(W k tt tm .own ss nz rm).2.1,(W k tt tm .own ss nz rm).2.2.1,(W k tt tm .own ss nz rm).2.2.2.1,(W k tt tm .own ss nz rm).2.2.2.2.1,(.own,(ss.map cS)++[[.int .i64 x0,.str x1,.str x2,.str x3,.str x4,.int .i64 x5,.sl (.im x6) 1 x7,.sl (.im x8) 3 x9,.sl (.im cu) 3 bL,.int .i64 (-1)]]),(W k tt tm .own ss nz rm).2.2.2.2.2.2):=by simp [W,cS]
  rw [e1] at fin;exact fin
 ·exact eZ (aF rfl fin)
theorem apj {l:List SR} {a b:SR} {c:Nat} {z:D} (h:(cS a).set c z=cS b):cd ((l++[a]).map cS) (0+l.length) c z=(l++[b]).map cS:=by
 have:((l++[a]).map cS).getD (0+l.length) []=cS a:=by simp
 unfold cd;rw [this,h];simp
theorem uH (hm:5≤m) (hN:ss.length≤100000000) (ho:qN st ss) (jX : -100000000≤rm) (pB:rm≤100000000) {x0:Int} {x1 x2 x3 x4:BB} {x5:Int} {x6:Bool} {x7:RR} {x8:Bool} {x9:RR} {cu:Bool} {bL:RR} {ec:Int} {K:Ax.T→OR}
  (h:Wp (K ((ss.length:Int),Ws k tt tm (ss++[⟨x0,x1,x2,x3,x4,x5,x6,x7,x8,x9,.im cu,bL,(ss.length+1:Nat)⟩]) nz (rm - 1),d,())) Q):Wp (qS (T m) x0 x1 x2 x3 x4 x5 x6 x7 x8 x9 cu bL ec (W k tt tm st ss nz rm) d K) Q:=by
 obtain ⟨m,rfl⟩:=cE hm;refine bH agM (wD (by omega) hN ho jX pB ?_);refine hC rfl (aF (aY ?_) (fq (b:=cS ⟨x0,x1,x2,x3,x4,x5,x6,x7,x8,x9,.im cu,bL,-1⟩) ?_ (aF rfl (iN (v:=(-1,())) rfl ?_))))
 ·show ss.length < ((ss++[SR.mk x0 x1 x2 x3 x4 x5 x6 x7 x8 x9 (.im cu) bL (-1)]).map cS).length;simp
 ·show ((ss++[SR.mk x0 x1 x2 x3 x4 x5 x6 x7 x8 x9 (.im cu) bL (-1)]).map cS)[0+ss.length]? = _;simp
 ·refine aA (aE (x:=((ss.length:Int),Ws k tt tm (ss++[⟨x0,x1,x2,x3,x4,x5,x6,x7,x8,x9,.im cu,bL,(ss.length+1:Nat)⟩]) nz (rm - 1),d,())) ?_ h);have e:cd ((ss++[SR.mk x0 x1 x2 x3 x4 x5 x6 x7 x8 x9 (.im cu) bL (-1)]).map cS) (0+ss.length) 9 (.int .i64 (ae ((ss++[SR.mk x0 x1 x2 x3 x4 x5 x6 x7 x8 x9 (.im cu) bL (-1)]).map cS).length))=(ss++[SR.mk x0 x1 x2 x3 x4 x5 x6 x7 x8 x9 (.im cu) bL ((ss.length+1:Nat):Int)]).map cS:=by
   refine apj ?_;rw [bI];simp [cS]
  show ig Ax (.one (iC (ss.length:Int)),[bx aR (Wr k tt (tm.map bA) .own (cd ((ss++[SR.mk x0 x1 x2 x3 x4 x5 x6 x7 x8 x9 (.im cu) bL (-1)]).map cS) (0+ss.length) 9 (.int .i64 (ae ((ss++[SR.mk x0 x1 x2 x3 x4 x5 x6 x7 x8 x9 (.im cu) bL (-1)]).map cS).length))) nz (rm - 1)),bx ao d])=_;rw [e];rfl
end
end
section
open Go Go.ax QQ
def yg (z:Int):Bool:=decide (-9223372036854775808≤z)&&decide (z≤9223372036854775807)
theorem ao0:yg 0=true:=by decide
theorem ao1 {z:Int} (h : -1000000≤z) (h':z≤1000000):yg z=true:=by simp [yg];omega
theorem ao2 (z:Int):yg (ak z)=true:=by
 show (decide (_≤IntKind.wrap .i64 z)&&decide (IntKind.wrap .i64 z≤_))=true;simp only [IntKind.wrap,IntKind.signed,IntKind.bits];simp;omega
def xJ (t:TM):Prop:=(t.kd=0∨t.kd=1∨t.kd=3∨t.kd=4)∧t.l = -1∧t.r = -1∧yg t.n=true
def LZ (tm:List TM) (i:Nat) (t:TM):Prop:=xJ t∨(t.n=0∧(t.kd=6∨t.kd=7∨t.kd=9∨t.kd=12∨t.kd=18∨t.kd=19)∧∃a b x y,t.l=((a:Nat):Int)∧t.r=((b:Nat):Int)∧a≠b∧a < i∧b < i∧tm[a]? = some x∧tm[b]? = some y∧xJ x∧xJ y∧(x.kd≠0∨y.kd≠0))
def ji (tm:List TM):Prop:=∀i t,tm[i]? = some t→LZ tm i t
theorem iZ {z:Int} (h:yg z=true:=by first | exact ao0 | exact ao2 _ | (refine ao1 ?_ ?_<;>(dsimp only;omega))):yg z=true:=h
theorem Pt {X:Type} {l:List X} {a:Nat} {x y:X} (h:l[a]? = some x):(l++[y])[a]? = some x:=by
 rw [nB];exact h;exact (cw.1 h).1
theorem abp {tm:List TM} {i:Nat} {t u:TM} (h:LZ tm i t):LZ (tm++[u]) i t:=by
 rcases h with h | ⟨hz,hk,a,b,x,y,h1,h2,h3,h4,h5,h6,h7,h8⟩
 ·exact .inl h
 ·exact .inr ⟨hz,hk,a,b,x,y,h1,h2,h3,h4,h5,Pt h6,Pt h7,h8⟩
theorem abq {tm:List TM} {u:TM} (h:ji tm) (hu:LZ tm tm.length u):ji (tm++[u]):=by
 intro i t ht;by_cases hi:i < tm.length
 ·rw [nB hi] at ht;exact abp (h i t ht)
 ·rw [nC (by omega)] at ht;have:i - tm.length=0:=by
   by_cases h0:i - tm.length=0
   ·exact h0
   ·rw [pV (by simp;omega)] at ht;cases ht
  rw [this] at ht;simp at ht;subst ht;rw [show i=tm.length by omega];exact abp hu
theorem qx {tm:List TM} {u:TM} (h:ji tm) (hu:xJ u):ji (tm++[u]):=abq h (.inl hu)
theorem xV {tm:List TM} {x y:TM} {c:Int} (h:ji tm) (hx:xJ x) (hy:xJ y) (hk:c=6∨c=7∨c=9∨c=12∨c=18∨c=19) (hv:x.kd≠0∨y.kd≠0):ji (tm++[x]++[y]++[⟨c,[],0,[],(tm.length:Int),((tm++[x]).length:Int)⟩]):=by
 refine abq (qx (qx h hx) hy) (.inr ⟨rfl,hk,tm.length,(tm++[x]).length,x,y,rfl,rfl,by simp,by simp,by simp,?_,?_,hx,hy,hv⟩)
 ·exact Pt (by simp)
 ·simp
section
variable {m:Nat} {Q:V→List (List C)→Prop} {k:WK} {tt st:Tag} {tm:List TM} {ss:List SR} {nz rm:Int} {d:au ao}
def D2 (r:RR) (b:BB):Prop:=r.length=b.length∧kA r=some b∧aW r=r∧sj r=true
theorem D2.cons {r:RR} {b:BB} (h:D2 r b) (z:Int):∃c,D2 ([[D.int .u8 0]].set 0 [D.int .u8 z]++r) (c::b):=by
 obtain ⟨h1,h2,h3,h4⟩:=h;refine ⟨UInt8.ofNat z.toNat,?_,?_,?_,?_⟩
 ·simp [h1]
 ·show (kA r).map _=_;rw [h2];rfl
 ·show Df _::aW r=_;rw [h3];rfl
 ·show sj ([D.int .u8 z]::r)=true;simp only [sj,List.all_cons] at h4 ⊢;rw [h4];simp [D.flat]
theorem Xo (q:Nat) (hq:30≤q) (z:Nat):∀(c j u:Nat) (r:RR) (b:BB),c < j→c≤18→u < 10 ^ c→D2 r b→b≠[]→b.length+c≤100→
  (∀s:BB,1≤s.length→s.length≤b.length+c→Q (.one (sC s)) [])→Wp (Kl (T q) q j (z:Int) (u:Int) r) Q
 | c,0,u,r,b,h0,_,_,_,_,_,_=>by omega
 | c,j+1,u,r,b,h0,zj,hu,hb,az,hl,h=>by
  obtain ⟨q,rfl⟩:=bm 1 q;have hz:decide ((z:Int) < 0)=false:=bV (by omega);refine aC (alh) ?_;have Qs:1≤b.length:=by cases b with | nil=>exact absurd rfl az | cons=>simp
  by_cases h1:u=0
  ·subst h1;refine dJ rfl (dJ (nE.2 (by rw [bI,hb.1];omega)) ?_);refine aC alm ?_;refine dJ hz (aF (by simp) ?_);rw [du,hb.2.2.1];exact fq hb.2.1 (aA (h b Qs (by omega)))
  ·match c,hu with
   | 0,hu=>simp at hu;omega
   | c+1,hu=>
    have e1:(iO ((u:Int).tdiv 10))=((u / 10:Nat):Int):=by
     have h9:(10:Nat) ^ (c+1)≤10 ^ 18:=Nat.pow_le_pow_right (by omega) zj;have h8:(u:Int).tdiv 10=((u / 10:Nat):Int):=by rw [M8 (by omega)];omega
     rw [h8];show IntKind.wrap .u64 _=_;simp only [IntKind.wrap,IntKind.signed,IntKind.bits];simp;omega
    refine fK (aY (by omega)) (aC alj (aF (by rw [du,hb.2.2.2];simp) (aF ?_ ?_)))
    ·rw [du,MT];simp;have:=hb.1;omega
    ·rw [du,e1];obtain ⟨x,hx⟩:=hb.cons (w8 (iO (48+(u:Int).tmod 10)));exact Xo (q+1) hq z c j (u / 10) _ _ (by omega) (by omega) (by rw [U4] at hu;omega) hx (by simp) (by simp;omega) (fun s g1 g2=>h s g1 (by simp at g2;omega))
theorem afh:D2 [] []:=⟨rfl,rfl,rfl,rfl⟩
theorem aea (hm:60≤m) {z:Nat} (hz:z < 10 ^ 17) {K:fI.T→OR} (h:∀s:BB,1≤s.length→s.length≤20→Wp (K (s,())) Q):Wp (Il (T m) (z:Int) K) Q:=by
 obtain ⟨q,rfl⟩:=bm 2 m;have hu:iO (z:Int)=(z:Int):=by
  show IntKind.wrap .u64 _=_;simp only [IntKind.wrap,IntKind.signed,IntKind.bits];simp;omega
 refine bH agP (dJ (bV (by omega)) ?_);rw [hu];refine aC aln (aC alg ?_);have fin:Wp (Km (T (q+1)) (q+1) q (q+1) (z:Int) (z:Int) true []) (J fI K Q):=by
  refine aC ali (aF (by rw [MT];rfl) ?_);obtain ⟨x,hx⟩:=afh.cons (w8 (iO (48+(z:Int).tmod 10)));have e1:iO ((z:Int).tdiv 10)=((z / 10:Nat):Int):=by
   have h8:(z:Int).tdiv 10=((z / 10:Nat):Int):=by rw [M8 (by omega)];omega
   rw [h8];show IntKind.wrap .u64 _=_;simp only [IntKind.wrap,IntKind.signed,IntKind.bits];simp;omega
  rw [e1];exact Xo (q+1) (by omega) z 17 q (z / 10) _ _ (by omega) (by omega) (by omega) hx (by simp) (by simp) (fun s h1 h2=>aE (x:=(s,())) rfl (h s h1 (by simp at h2;omega)))
 by_cases h0:(z:Int) > 0
 ·exact fK (aY h0) fin
 ·exact dJ (bV h0) (fK rfl fin)
theorem aed (hm:70≤m) {z:Nat} (hz:z≤100000000) {K:uy.T→OR} (h:∀s:BB,1≤s.length→s.length≤30→Wp (K (s,W k tt tm st ss ((z+1:Nat):Int) rm,d,())) Q):Wp (c146 (T m) (W k tt tm st ss (z:Int) rm) d K) Q:=by
 obtain ⟨m,rfl⟩:=cE hm;have hw:=wI z;refine bH agx ?_;show Wp (Il (T m) (ak ((z:Int)+1)) _) _;rw [hw];refine aea (by omega) (by omega) fun s h1 h2=>cr (by show 1+s.length≤_;omega) (aA (aE (x:=([118]++s,W k tt tm st ss ((z+1:Nat):Int) rm,d,())) ?_ (h _ (by simp) (by simp;omega))))
 show ig uy (.one (sC ([118]++s)),[bx aR (W k tt tm st ss (ak ((z:Int)+1)) rm),bx ao d])=_;rw [hw];rfl
theorem aqH (hm:10≤m) (hN:tm.length≤90000000) (ho:qN tt tm) (hT:ji tm) {K:pO.T→OR}
  (h:∀(z:Int) (dB:List TM),ji dB→dB.length=tm.length+3→Wp (K (z,Wt k dB st ss nz rm,d,())) Q):Wp (c196 (T m) (W k tt tm st ss nz rm) d K) Q:=by
 obtain ⟨m,rfl⟩:=cE hm;refine bH agB (rP (by omega) (by omega) ho ?_);refine w_num (m:=m) (k:=k) (tm:=tm++[⟨0,[110],0,[],-1,-1⟩]) (by omega) (by simp;omega) (.inl rfl) ?_;refine yv (m:=m) (k:=k) (by omega) (by simp;omega) (.inl rfl) (aA ?_);exact aE rfl (h _ _ (xV hT ⟨.inl rfl,rfl,rfl,iZ⟩ ⟨.inr (.inl rfl),rfl,rfl,iZ⟩ (.inr (.inl rfl)) (.inr (by decide))) (by simp))
end
end
section
open Go Go.ax QQ
structure CR where
 ro:BB
 pc:BB
 gt:Bool
 ag:List Int
def eC (c:CR):List D:=[.str c.ro,.str c.pc,.sl (.im c.gt) 1 (c.ag.map bF)]
structure WR where
 lb:BB
 nm:BB
 nx:Int
def cW (w:WR):List D:=[.str w.lb,.str w.nm,.int .i64 w.nx]
theorem At:∀a:WR,0+3≤(cW a).length∧dV uC (List.take 3 (List.drop 0 (cW a)))=some ((fun w=>(w.lb,w.nm,w.nx,())) a):=(fun a=>⟨by simp [cW],rfl⟩)
def nS (s:SR):Prop:=(∃l:List Int,s.ag=l.map bF∧l.length≤100)∧(∃l:List CR,s.cs=l.map eC∧l.length≤100∧∀c∈l,c.ag.length≤100)∧(∃l:List WR,s.ws=l.map cW∧l.length≤100)∧qN s.wt s.ws
structure WH (N:Nat) (tt:Tag) (tm:List TM) (st:Tag) (ss:List SR) (nz rm:Int):Prop where
 ot:qN tt tm
 os:qN st ss
 nt:tm.length≤N
 ns:ss.length≤N
 kT:ji tm
 kS:∀s∈ss,nS s
 n0:∃z:Nat,nz=(z:Int)∧z≤N
 r1 : -(N:Int)≤rm
 r2:rm≤20
 te:tt = .own→tm≠[]
 se:st = .own→ss≠[]
section
variable {m N:Nat} {Q:V→List (List C)→Prop} {k:WK} {tt st:Tag} {tm:List TM} {ss:List SR} {nz rm:Int} {d:au ao}
theorem WH.le {M:Nat} (h:WH N tt tm st ss nz rm) (hm:N≤M):WH M tt tm st ss nz rm:=by
 obtain ⟨z,hz,JN⟩:=h.n0;exact ⟨h.ot,h.os,by have:=h.nt;omega,by have:=h.ns;omega,h.kT,h.kS,⟨z,hz,by omega⟩,by have:=h.r1;omega,h.r2,h.te,h.se⟩
theorem WH.terms {dB:List TM} (h:WH N tt tm st ss nz rm) {M:Nat} (hm:N≤M) (h1:dB.length≤M) (h2:ji dB) (h3:dB≠[]:=by simp):WH M .own dB st ss nz rm:=by
 obtain ⟨z,hz,JN⟩:=h.n0;exact ⟨.inl rfl,h.os,h1,by have:=h.ns;omega,h2,h.kS,⟨z,hz,by omega⟩,by have:=h.r1;omega,h.r2,fun _=>h3,h.se⟩
theorem WH.step {s:SR} (h:WH N tt tm st ss nz rm) (hs:nS s):WH (N+1) tt tm .own (ss++[s]) nz (rm - 1):=by
 obtain ⟨z,hz,JN⟩:=h.n0;refine ⟨h.ot,.inl rfl,by have:=h.nt;omega,by have:=h.ns;simp;omega,h.kT,?_,⟨z,hz,by omega⟩,by have:=h.r1;omega,by have:=h.r2;omega,h.te,fun _=>by simp⟩;intro x hx;rw [dC] at hx;rcases hx with hx | hx
 ·exact h.kS x hx
 ·simp at hx;subst hx;exact hs
theorem WH.fresh {z:Nat} (h:WH N tt tm st ss (z:Int) rm):WH (N+1) tt tm st ss ((z+1:Nat):Int) rm:=by
 obtain ⟨y,hy,xw⟩:=h.n0;exact ⟨h.ot,h.os,by have:=h.nt;omega,by have:=h.ns;omega,h.kT,h.kS,⟨z+1,rfl,by omega⟩,by have:=h.r1;omega,h.r2,h.te,h.se⟩
theorem nT {a:Int} {b c d e:BB} {f g:Int}:nS ⟨a,b,c,d,e,f,true,[],true,[],.im true,[],g⟩:=
 ⟨⟨[],rfl,by simp⟩,⟨[],rfl,by simp,by simp⟩,⟨[],rfl,by simp⟩,.inr ⟨rfl,rfl⟩⟩
theorem aqD (hm:100≤m) (hN:N≤80000000) (H:WH N tt tm st ss nz rm) (hd:cQ d) {kd:Int} {K:pO.T→OR}
  (h:∀(z:Int) (dB:List TM) d',ji dB→dB.length≤tm.length+3→dB≠[]→cQ d'→Wp (K (z,Wt k dB st ss nz rm,d',())) Q):Wp (Wv (T m) kd (W k tt tm st ss nz rm) d K) Q:=by
 obtain ⟨m,rfl⟩:=cE hm;have hl:=H.nt;have hT:=H.kT;refine bH agy (aj (fun h1=>?_) (fun h1=>aj (fun h2=>?_) (fun h2=>aj (fun h3=>?_) (fun h3=>?_))))
 ·refine jQ (m:=m) (n:=5) (by omega) (by omega) (by omega) hd fun j d1 hj cJ=>?_
  refine aj (fun h5=>?_) (fun h5=>aj (fun h6=>?_) (fun h6=>?_))
  ·refine w_num (m:=m) (k:=k) (by omega) (by omega) H.ot ?_;refine rP (m:=m) (k:=k) (by omega) (by simp;omega) (.inl rfl) ?_;refine yv (m:=m) (k:=k) (by omega) (by simp;omega) (.inl rfl) (aA ?_);exact aE rfl (h _ _ _ (xV hT ⟨.inr (.inl rfl),rfl,rfl,iZ⟩ ⟨.inl rfl,rfl,rfl,iZ⟩ (.inr (.inr (.inl rfl))) (.inl (by decide))) (by simp) (by simp) cJ)
  ·refine jQ (m:=m) (n:=9) (by omega) (by omega) (by omega) cJ fun j2 d2 lp fk=>?_
   refine w_num (m:=m) (k:=k) (by omega) (by omega) H.ot (aA ?_);exact aE rfl (h _ _ _ (qx hT ⟨.inr (.inl rfl),rfl,rfl,iZ⟩) (by simp) (by simp) fk)
  ·refine rP (m:=m) (k:=k) (by omega) (by omega) H.ot ?_;refine jQ (m:=m) (n:=5) (by omega) (by omega) (by omega) cJ fun j2 d2 lp fk=>?_
   refine w_num (m:=m) (k:=k) (by omega) (by simp;omega) (.inl rfl) ?_;refine yv (m:=m) (k:=k) (by omega) (by simp;omega) (.inl rfl) (aA ?_);exact aE rfl (h _ _ _ (xV hT ⟨.inl rfl,rfl,rfl,iZ⟩ ⟨.inr (.inl rfl),rfl,rfl,iZ⟩ (.inl rfl) (.inr (show (1:Int)≠0 by decide))) (by simp) (by simp) fk)
 ·refine rP (m:=m) (k:=k) (by omega) (by omega) H.ot ?_;refine jQ (m:=m) (n:=4) (by omega) (by omega) (by omega) hd fun j2 d2 lp fk=>?_
  refine w_num (m:=m) (k:=k) (by omega) (by simp;omega) (.inl rfl) ?_;refine yv (m:=m) (k:=k) (by omega) (by simp;omega) (.inl rfl) (aA ?_);exact aE rfl (h _ _ _ (xV hT ⟨.inl rfl,rfl,rfl,iZ⟩ ⟨.inr (.inl rfl),rfl,rfl,iZ⟩ (.inr (.inr (.inr (.inl rfl)))) (.inr (show (1:Int)≠0 by decide))) (by simp) (by simp) fk)
 ·refine jQ (m:=m) (n:=9) (by omega) (by omega) (by omega) hd fun j2 d2 lp fk=>?_
  refine aea (m:=m) (by omega) (by omega) fun s g1 g2=>cr (by show 1+s.length≤_;omega) ?_
  refine AK (m:=m) (k:=k) (by omega) (by omega) H.ot ?_;refine AK (m:=m) (k:=k) (by omega) (by simp;omega) (.inl rfl) ?_;refine yv (m:=m) (k:=k) (by omega) (by simp;omega) (.inl rfl) (aA ?_);exact aE rfl (h _ _ _ (xV hT ⟨.inr (.inr (.inl rfl)),rfl,rfl,iZ⟩ ⟨.inr (.inr (.inl rfl)),rfl,rfl,iZ⟩ (.inr (.inr (.inr (.inr (.inr rfl))))) (.inr (by decide))) (by simp) (by simp) fk)
 ·refine AK (m:=m) (k:=k) (by omega) (by omega) H.ot ?_;refine rP (m:=m) (k:=k) (by omega) (by simp;omega) (.inl rfl) ?_;refine yv (m:=m) (k:=k) (by omega) (by simp;omega) (.inl rfl) (aA ?_);exact aE rfl (h _ _ _ (xV hT ⟨.inr (.inr (.inr rfl)),rfl,rfl,iZ⟩ ⟨.inl rfl,rfl,rfl,iZ⟩ (.inr (.inr (.inr (.inr (.inl rfl))))) (.inl (by decide))) (by simp) (by simp) hd)
theorem MZ (hm:100≤m) (hN:N≤80000000) (H:WH N tt tm st ss nz rm) {over:Bool} {K:uz.T→OR}
  (h:∀ss' gR,WH (N+2) tt tm .own ss' nz gR→(∃x,ss'=ss++x∧1≤x.length)→Wp (K ((ss.length:Int),W k tt tm .own ss' nz gR,d,())) Q):Wp (c141 (T m) over (W k tt tm st ss nz rm) d K) Q:=by
 obtain ⟨m,rfl⟩:=bm 2 m;have hl:=H.ns;have r1:=H.r1;have r2:=H.r2;have go:∀t,qN t ss→(t = .own→ss≠[])→Wp (bif (!over) then (kj (T (m+1)) 9 fun v3=>(qS (T (m+1)) v3.1.1 [99] v3.1.2.2.1 v3.1.2.2.2.1 v3.1.2.2.2.2.1 v3.1.2.2.2.2.2.1 v3.1.2.2.2.2.2.2.1.1 v3.1.2.2.2.2.2.2.1.2 v3.1.2.2.2.2.2.2.2.1.1 v3.1.2.2.2.2.2.2.2.1.2 v3.1.2.2.2.2.2.2.2.2.1.1 v3.1.2.2.2.2.2.2.2.2.1.2 v3.1.2.2.2.2.2.2.2.2.2.1 (W k tt tm t ss nz rm) d fun v4=>(Rm (T (m+1)) (m+1) (W k tt tm st ss nz rm) d (m+1) ((),v4.2.1.2.1,v4.2.1.2.2.1,v4.2.1.2.2.2.1,v4.2.1.2.2.2.2.1,(.own,v4.2.1.2.2.2.2.2.1),v4.2.1.2.2.2.2.2.2) v4.2.2.1 (ae (ss.map cS).length) (v3.1.1,[99],v3.1.2.2)))) else (Rn (T (m+1)) (m+1) (W k tt tm st ss nz rm) d (m+1) (W k tt tm t ss nz rm) d (ae (ss.map cS).length))) (J uz K Q):=by
  intro t ht mo;have hn:ae (ss.map cS).length=(ss.length:Int):=by rw [bI];simp
  rw [hn];have Ht:WH N tt tm t ss nz rm:=⟨H.ot,ht,H.nt,H.ns,H.kT,H.kS,H.n0,H.r1,H.r2,H.te,mo⟩
  refine aj (fun h1=>?_) (fun h1=>?_)
  ·refine mI (m:=m+1) (by omega) ?_;refine uH (m:=m+1) (k:=k) (by omega) (by omega) ht (by omega) (by omega) ?_;refine aC ak0 ?_;refine mI (m:=m+1) (by omega) ?_;refine wD (m:=m+1) (k:=k) (by omega) (by simp;omega) (.inl rfl) (by omega) (by omega) (aA ?_);exact aE rfl (h _ _ ((Ht.step nT).step nT) ⟨_,by rw [ek],by simp⟩)
  ·refine aC ak1 ?_;refine mI (m:=m+1) (by omega) ?_;refine wD (m:=m+1) (k:=k) (by omega) (by omega) ht (by omega) (by omega) (aA ?_);exact aE rfl (h _ _ ((Ht.step nT).le (by omega)) ⟨_,rfl,by simp⟩)
 refine bH agw ?_;have mo:=H.se;rcases H.os with rfl | ⟨rfl,rfl⟩
 ·exact jb (go .own (.inl rfl) mo)
 ·exact eZ (go (.im true) (.inr ⟨rfl,rfl⟩) (by intro h;cases h))
end
end
section
open Go Go.ax QQ
def ur (p:PR):Prop:=p.nm.length≤20∧1≤p.rs.length∧p.rs.length≤10∧∀s∈p.rs,s.length≤20
def GL (P:Nat) (t:TN):Prop:=(t.kd=0∧t.ms=[])∨((t.kd=1∨t.kd=2)∧1≤t.ms.length∧t.ms.length≤10∧∀a∈t.ms,a.nx < P)
structure KH (k:WK):Prop where
 p0:k.ps≠[]
 p1:k.ps.length≤10
 p2:∀p∈k.ps,ur p
 ro:∃(r:Nat) (L:LR),k.role=(r:Int)∧k.ty[r]? = some L∧1≤L.ts.length∧L.ts.length≤100∧∀t∈L.ts,GL L.ts.length t
section
variable {m N:Nat} {Q:V→List (List C)→Prop} {k:WK} {tt st:Tag} {tm:List TM} {ss:List SR} {nz rm:Int} {d:au ao}
theorem zh {l:List BB} {i:Nat} (h:i < l.length):l[i]? = some l[i]:=gE h
theorem adX (q:Nat) (hq:40≤q) (hk:KH k) (a0:BB) (x2:au ao) (x1:au aR) (a3:au eb)
  (h:∀p∈k.ps,∀r∈p.rs,Q (.aq [.agg [sC p.nm,lC (.im p.rt) 1 (p.rs.map fun s=>[.str s]),lC (.im p.pt) 3 p.il],.one (sC r)]) [bx aR (W k tt tm st ss nz rm),bx ao d]) :
  ∀(c i:Nat),k.ps.length - i < c→i≤k.ps.length→Wp (Kj (T q) q x1 x2 c a0 (W k tt tm st ss nz rm) d a3 (i:Int)) Q
 | 0,i,hc,_=>by omega
 | c+1,i,hc,hi=>by
  refine aC ale (aj (fun h1=>?_) (fun h1=>?_))
  ·have af:i < k.ps.length:=bN h1;have hp:=hk.p2 _ (bM af);have hg:k.ps[i]? = some k.ps[i]:=gE af;have inner:∀(e j:Nat),k.ps[i].rs.length - j < e→j≤k.ps[i].rs.length→Wp (Kk (T q) q x1 x2 c e a0 (W k tt tm st ss nz rm) d a3 (i:Int) (j:Int)) Q:=by
    intro e;induction e with
    | zero=>intro j he;omega
    | succ e ih=>
     intro j he hj;refine aC alf ?_;refine aM S4 rfl hg (aj (fun h2=>?_) (fun h2=>?_))
     ·have lp:j < k.ps[i].rs.length:=bN h2;have hr:=zh lp;have gB:=hp.2.2.2 _ (bM lp);have hpn:=hp.1;refine aM (enc:=di) (f:=fun p=>(p.nm,())) (fun a=>⟨by simp [di],rfl⟩) rfl hg (cr (by dsimp only;omega) ?_);refine aM S4 rfl hg ?_;refine aM (enc:=fun s:BB=>[D.str s]) (f:=fun s=>(s,())) (fun a=>⟨by simp,rfl⟩) rfl hr (cr (by dsimp only;simp only [eu,gk,jB];omega) ?_);refine aj (fun h4=>?_) (fun h4=>?_)
      ·refine aM Au rfl hg ?_;refine aM S4 rfl hg ?_;refine aM (enc:=fun s:BB=>[D.str s]) (f:=fun s=>(s,())) (fun a=>⟨by simp,rfl⟩) rfl hr ?_;exact aA (h _ (bM af) _ (bM lp))
      ·rw [show ak ((j:Int)+1)=((j+1:Nat):Int) from gM (by omega) (by have:=hp.2.2.1;omega)];exact ih (j+1) (by omega) (by omega)
     ·rw [show ak ((i:Int)+1)=((i+1:Nat):Int) from gM (by omega) (by have:=hk.p1;omega)];exact adX q hq hk a0 x2 x1 a3 h c (i+1) (by omega) (by omega)
   exact inner q 0 (by have:=hp.2.2.1;omega) (by omega)
  ·have h0:0 < k.ps.length:=by have:=hk.p0;cases e9:k.ps with | nil=>exact absurd e9 this | cons=>simp
   have hg:k.ps[0]? = some k.ps[0]:=gE h0;have hp:=hk.p2 _ (bM h0);have hr:=zh (l:=k.ps[0].rs) (i:=0) (by have:=hp.2.1;omega);have sD:(k.ps.map di)[0]? = some (di k.ps[0]):=by rw [bS,hg];rfl
   have en:(k.ps[0].rs.map fun s=>[D.str s])[0]? = some [D.str (k.ps[0].rs[0]'(by have:=hp.2.1;omega))]:=by rw [bS,hr];rfl
   refine fq sD (aF (aY (by simp [di])) (iN (v:=(k.ps[0].nm,(k.ps[0].rt,k.ps[0].rs.map fun s=>[.str s]),(k.ps[0].pt,k.ps[0].il),())) rfl ?_));refine aC (yc (r:=di k.ps[0]) (v:=((k.ps[0].rt,k.ps[0].rs.map fun s=>[.str s]),())) sD (by simp [di]) rfl rfl) ?_;refine fq en (aF (aY (by simp)) (iN (v:=(_,())) rfl ?_));exact aA (h _ (bM h0) _ (bM _))
theorem aer (hm:50≤m) (hk:KH k) {a0:BB} {K:acN.T→OR}
  (h:∀p∈k.ps,∀r∈p.rs,Wp (K (((p.nm,(p.rt,p.rs.map fun s=>[.str s]),(p.pt,p.il),()),r,()),W k tt tm st ss nz rm,d,())) Q):Wp (c198 (T m) a0 (W k tt tm st ss nz rm) d K) Q:=by
 obtain ⟨m,rfl⟩:=cE hm;refine bH agO ?_;exact adX m (by omega) hk a0 d (W k tt tm st ss nz rm) _ (fun p hp r hr=>aE rfl (h p hp r hr)) m 0 (by have:=hk.p1;omega) (by omega)
theorem Hs (hm:1≤m) {a:BB} {b:Bool} {c:RR} {e:Bool} {f:RR} {r:BB} (ha:a.length≤20) (hr:r.length≤20) {K:fI.T→OR} (h:∀s:BB,s.length≤40→Wp (K (s,())) Q):Wp (Bg (T m) a b c e f r K) Q:=by
 obtain ⟨m,rfl⟩:=cE hm;exact bH agl (cr (by omega) (aA (aE (x:=(a++r,())) rfl (h _ (by simp;omega)))))
end
end
section
open Go Go.ax QQ
def cO (c:CR):List D:=[.str c.ro,.str c.pc,.sl .own 1 (c.ag.map bF)]
theorem Mc:∀l:List Int,aW (l.map bF)=l.map bF
 | []=>rfl
 | a::t=>by simp only [gl,aW,Mc t];rfl
theorem abP:∀l:List CR,aW (l.map cO)=(l.map fun c=>{ c with gt:=false }).map eC
 | []=>rfl
 | a::t=>by
  simp only [gl,aW,abP t];show [_,_,D.sl (.im false) 1 (aW (a.ag.map bF))]::_=_;rw [Mc];rfl
section
variable {m N:Nat} {Q:V→List (List C)→Prop} {k:WK} {tt st:Tag} {tm:List TM} {ss:List SR} {nz rm:Int} {d:au ao}
def Nx (k:WK) (N:Nat) (ss:List SR) (K:uy.T→OR) (Q:V→List (List C)→Prop):Prop:=
 ∀(s:BB) la dB ss' oP gR d',WH N la dB .own ss' oP gR→(∃x,ss'=ss++x)→cQ d'→Wp (K (s,W k la dB .own ss' oP gR,d',())) Q
theorem Sq (q:Nat) (hq:100≤q) (hN:N≤70000000) (p:PR) (hp:ur p) (a0:BB) (x2:au ao) (x1:au aR) {K:uy.T→OR} (x3 x4 x5 x6:BB) (kd AE:Int) (h:Nx k (N+11) ss K Q) :
  ∀(c i:Nat) (tt:Tag) (tm:List TM) (cs:List CR) (d:au ao),p.rs.length - i < c→i≤p.rs.length→WH (N+i) tt tm st ss nz rm→cQ d→cs.length≤i→(∀x∈cs,x.ag.length≤100)→
   Wp (F5 (T q) q x1 x2 c a0 (W k tt tm st ss nz rm) d (p.nm,(p.rt,p.rs.map fun s=>[.str s]),(p.pt,p.il),()) (kd,x3,x4,x5,x6,AE,(true,[]),cs.map cO,(true,[]),-1,()) (i:Int)) (J uy K Q)
 | 0,i,tt,tm,cs,d,hc,_,_,_,_,_=>by omega
 | c+1,i,tt,tm,cs,d,hc,hi,H,hd,aS,PY=>by
  have hp3:=hp.2.2.1;refine aC ak8 (aj (fun h1=>?_) (fun h1=>?_))
  ·have af:i < p.rs.length:=bN h1;have hr:=zh af;have hw:=wI i;refine aM (enc:=fun s:BB=>[D.str s]) (f:=fun s=>(s,())) (fun a=>⟨by simp,rfl⟩) rfl hr (aj (fun h2=>?_) (fun h2=>?_))
   ·refine aM (enc:=fun s:BB=>[D.str s]) (f:=fun s=>(s,())) (fun a=>⟨by simp,rfl⟩) rfl hr ?_;refine aM (enc:=fun s:BB=>[D.str s]) (f:=fun s=>(s,())) (fun a=>⟨by simp,rfl⟩) rfl hr ?_;refine Hs (m:=q) (by omega) hp.1 (hp.2.2.2 _ (bM af)) fun s hs=>?_
    refine jQ (m:=q) (n:=4) (by omega) (by omega) (by omega) hd fun j d1 hj cJ=>?_
    refine w_num (m:=q) (k:=k) (by omega) (by have:=H.nt;omega) H.ot (aF (gX (by simp;omega) (by omega)) ?_);rw [hw];have H2:=H.terms (M:=N+(i+1)) (dB:=tm++[⟨1,[],(j:Int),[],-1,-1⟩]) (by omega) (by have:=H.nt;simp;omega) (qx H.kT ⟨.inr (.inl rfl),rfl,rfl,iZ⟩);have:=Sq q hq hN p hp a0 x2 x1 x3 x4 x5 x6 kd AE h c (i+1) .own _ (cs++[⟨p.rs[i],s,false,[(tm.length:Int)]⟩]) d1 (by omega) (by omega) H2 cJ (by simp;omega)
     (by intro x hx;rw [dC] at hx;rcases hx with hx | hx;exact PY x hx;simp at hx;subst hx;simp)
    rw [eB] at this;exact this
   ·rw [hw];exact Sq q hq hN p hp a0 x2 x1 x3 x4 x5 x6 kd AE h c (i+1) tt tm cs d (by omega) (by omega) (H.le (by omega)) hd (by omega) PY
  ·refine aF (by simp) ?_;have e1:aW (whole (cs.map cO))=(cs.map fun c=>{ c with gt:=false }).map eC:=by rw [du,abP]
   dsimp only;rw [e1];refine uH (m:=q) (k:=k) (by omega) (by have:=H.ns;omega) H.os (by have:=H.r1;omega) (by have:=H.r2;omega) (aA ?_);refine aE rfl (h _ _ _ _ _ _ _ ((H.step ⟨⟨[],rfl,by simp⟩,⟨_,rfl,by simp;omega,?_⟩,⟨[],rfl,by simp⟩,.inr ⟨rfl,rfl⟩⟩).le (by omega)) ⟨_,rfl⟩ hd);intro x hx;simp only [iz] at hx;obtain ⟨y,hy,rfl⟩:=hx;exact PY y hy
theorem abx (q:Nat) (hq:100≤q) (hN:N≤70000000) (p:PR) (hp:ur p) (a0:BB) (x2:au ao) (x1:au aR) {K:uy.T→OR} (x3 x4 x5 x6:BB) (kd AE:Int) (h:Nx k (N+11) ss K Q) :
  ∀(c i:Nat) (tt:Tag) (tm:List TM) (d:au ao),c≤q→p.rs.length - i < c→i≤p.rs.length→WH (N+i) tt tm st ss nz rm→cQ d→
   Wp (Ki (T q) q x1 x2 c a0 (W k tt tm st ss nz rm) d (p.nm,(p.rt,p.rs.map fun s=>[.str s]),(p.pt,p.il),()) (kd,x3,x4,x5,x6,AE,(true,[]),(true,[]),(true,[]),-1,()) (i:Int)) (J uy K Q)
 | 0,i,tt,tm,d,_,hc,_,_,_=>by omega
 | c+1,i,tt,tm,d,E0,hc,hi,H,hd=>by
  have hp3:=hp.2.2.1;refine aC ak7 (aj (fun h1=>?_) (fun h1=>?_))
  ·have af:i < p.rs.length:=bN h1;have hr:=zh af;have hw:=wI i;refine aM (enc:=fun s:BB=>[D.str s]) (f:=fun s=>(s,())) (fun a=>⟨by simp,rfl⟩) rfl hr (aj (fun h2=>?_) (fun h2=>?_))
   ·refine aM (enc:=fun s:BB=>[D.str s]) (f:=fun s=>(s,())) (fun a=>⟨by simp,rfl⟩) rfl hr ?_;refine aM (enc:=fun s:BB=>[D.str s]) (f:=fun s=>(s,())) (fun a=>⟨by simp,rfl⟩) rfl hr ?_;refine Hs (m:=q) (by omega) hp.1 (hp.2.2.2 _ (bM af)) fun s hs=>?_
    refine jQ (m:=q) (n:=4) (by omega) (by omega) (by omega) hd fun j d1 hj cJ=>?_
    refine w_num (m:=q) (k:=k) (by omega) (by have:=H.nt;omega) H.ot (aF rfl ?_);rw [hw];have H2:=H.terms (M:=N+(i+1)) (dB:=tm++[⟨1,[],(j:Int),[],-1,-1⟩]) (by omega) (by have:=H.nt;simp;omega) (qx H.kT ⟨.inr (.inl rfl),rfl,rfl,iZ⟩);exact Sq q hq hN p hp a0 x2 x1 x3 x4 x5 x6 kd AE h c (i+1) .own _ [⟨p.rs[i],s,false,[(tm.length:Int)]⟩] d1 (by omega) (by omega) H2 cJ (by simp)
     (by intro x hx;simp at hx;subst hx;simp)
   ·rw [hw];exact abx q hq hN p hp a0 x2 x1 x3 x4 x5 x6 kd AE h c (i+1) tt tm d (by omega) (by omega) (by omega) (H.le (by omega)) hd
  ·refine uH (m:=q) (k:=k) (by omega) (by have:=H.ns;omega) H.os (by have:=H.r1;omega) (by have:=H.r2;omega) (aA ?_);exact aE rfl (h _ _ _ _ _ _ _ ((H.step nT).le (by omega)) ⟨_,rfl⟩ hd)
theorem Uk (hm:110≤m) (hN:N≤60000000) (H:WH N tt tm st ss nz rm) (hd:cQ d) {p:PR} (hp:ur p) {r:BB} {K:uy.T→OR} (h:Nx k (N+12) ss K Q) :
  Wp (c85 (T m) p.nm p.rt (p.rs.map fun s=>[.str s]) p.pt p.il r (W k tt tm st ss nz rm) d K) Q:=by
 obtain ⟨m,rfl⟩:=cE hm;obtain ⟨z,rfl,hz⟩:=H.n0;refine bH agF (mI (m:=m) (by omega) (aed (m:=m) (by omega) (by omega) fun s h1 h2=>?_));exact abx m (by omega) (N:=N+1) (by omega) p hp r d _ _ _ _ _ _ _ h m 0 tt tm d (by omega) (by have:=hp.2.2.1;omega) (by omega) H.fresh hd
theorem aqY (hm:120≤m) (hN:N≤60000000) (H:WH N tt tm st ss nz rm) (hk:KH k) (hd:cQ d) {a:BB} {c:Int} {e:BB} {K:lB.T→OR}
  (h:∀la dB st' ss' gR d',WH (N+3) la dB st' ss' nz gR→(∃x,ss'=ss++x)→cQ d'→Wp (K ((),W k la dB st' ss' nz gR,d',())) Q):Wp (Wu (T m) a c e (W k tt tm st ss nz rm) d K) Q:=by
 obtain ⟨m,rfl⟩:=cE hm;have hl:=H.nt;have hs:=H.ns;have r1:=H.r1;have r2:=H.r2;refine bH agN (aj (fun h1=>?_) (fun h1=>?_))
 ·refine jQ (m:=m) (n:=3) (by omega) (by omega) (by omega) hd fun j d1 hj cJ=>aj (fun h2=>?_) (fun h2=>?_)
  ·refine mI (m:=m) (by omega) (rP (m:=m) (k:=k) (by omega) (by omega) H.ot ?_);have H2:=H.terms (M:=N+1) (dB:=tm++[⟨0,a,0,[],-1,-1⟩]) (by omega) (by simp;omega) (qx H.kT ⟨.inl rfl,rfl,rfl,iZ⟩);refine uH (m:=m) (k:=k) (by omega) (by omega) H.os (by omega) (by omega) (aA ?_);exact aE rfl (h _ _ _ _ _ _ ((H2.step nT).le (by omega)) ⟨_,rfl⟩ cJ)
  ·exact aA (aE rfl (h _ _ _ _ _ _ (H.le (by omega)) ⟨[],by simp⟩ cJ))
 ·refine jQ (m:=m) (n:=3) (by omega) (by omega) (by omega) hd fun j d1 hj cJ=>aj (fun h2=>?_) (fun h2=>?_)
  ·refine mI (m:=m) (by omega) (uH (m:=m) (k:=k) (by omega) (by omega) H.os (by omega) (by omega) (aA ?_));exact aE rfl (h _ _ _ _ _ _ ((H.step nT).le (by omega)) ⟨_,rfl⟩ cJ)
  ·refine aer (m:=m) (by omega) hk fun p hp r hr=>mI (m:=m) (by omega) ?_
   have mn:=hk.p2 p hp;refine Hs (m:=m) (by omega) mn.1 (mn.2.2.2 r hr) fun s jI=>?_
   refine rP (m:=m) (k:=k) (by omega) (by omega) H.ot ?_;refine jQ (m:=m) (n:=3) (by omega) (by omega) (by omega) cJ fun j2 d2 lp fk=>?_
   refine w_num (m:=m) (k:=k) (by omega) (by simp;omega) (.inl rfl) ?_;have H2:=H.terms (M:=N+2) (dB:=tm++[⟨0,a,0,[],-1,-1⟩]++[⟨1,[],(j2:Int),[],-1,-1⟩]) (by omega) (by simp;omega) (qx (qx H.kT ⟨.inl rfl,rfl,rfl,iZ⟩) ⟨.inr (.inl rfl),rfl,rfl,iZ⟩);refine uH (m:=m) (k:=k) (by omega) (by omega) H.os (by omega) (by omega) (aA ?_);exact aE rfl (h _ _ _ _ _ _ ((H2.step ⟨⟨[_,_],rfl,by simp⟩,⟨[],rfl,by simp,by simp⟩,⟨[],rfl,by simp⟩,.inr ⟨rfl,rfl⟩⟩).le (by omega)) ⟨_,rfl⟩ fk)
end
end
section
open Go Go.ax QQ
section
variable {m N:Nat} {Q:V→List (List C)→Prop} {k:WK} {tt st:Tag} {tm:List TM} {ss:List SR} {nz rm:Int} {d:au ao}
theorem MC {ss:List SR} {i:Nat} {s:SR} (hs:ss[i]? = some s) {t:Tag} {r:RR}:cd (ss.map cS) (0+i) 8 (.sl t 3 r)=(ss.set i { s with wt:=t,ws:=r }).map cS:=by
 have:(ss.map cS).getD (0+i) []=cS s:=by simp [List.getD,hs]
 unfold cd;rw [this,db,AW];rfl
theorem MB {ss:List SR} {i:Nat} {s:SR} (hs:ss[i]? = some s) {t:Tag} {r:RR}:cd (cd (ss.map cS) (0+i) 8 .dead) (0+i) 8 (.sl t 3 r)=(ss.set i { s with wt:=t,ws:=r }).map cS:=by
 have hi:i < ss.length:=(cw.1 hs).1;have:(ss.map cS).getD (0+i) []=cS s:=by simp [List.getD,hs]
 unfold cd;rw [this,db,AW];have e:(((ss.map cS).set i ((cS s).set 8 .dead)).getD i [])=(cS s).set 8 .dead:=by
  simp [List.getD,hi]
 rw [e,UZ];rfl
theorem aev {L:RR} {z:Int} {i:Nat} {s:SR} {ss:List SR} (hL:L=ss.map cS) (hz:z=(i:Int)) (hs:ss[i]? = some s) (hw:s.wt = .im true) {K:Nat→OR} (h:Wp (K i) Q) :
  Wp (aD (bY z) fun o5=>gd (decide (o5 < L.length)) (aD (L[0+o5]?) fun o6=>gd (decide (0+1+1+1+1+1+1+1+1+1≤o6.length)) (cA [.im 3] (List.take 1 (List.drop 8 o6)) fun v7=>gd (v7.1.1&&true&&true) (aD (bY z) fun o8=>gd (decide (o8 < L.length)) (aD (L[0+o8]?) fun o9=>gd (decide (0+1+1+1+1+1+1+1+1+1≤o9.length)&&true) (cA [.im 3] (List.take 1 (List.drop 8 o9)) fun v10=>K o8)))))) Q:=by
 subst hL;have hi:i < ss.length:=(cw.1 hs).1;have hg:(ss.map cS)[0+i]? = some (cS s):=by rw [db,bS,hs];rfl
 have hd:dV [.im 3] (List.take 1 (List.drop 8 (cS s)))=some ((true,s.ws),()):=by
  show dV [.im 3] [.sl s.wt 3 s.ws]=_;rw [hw];rfl
 refine hC hz (aF (aY (by simpa using hi)) (fq hg (aF rfl (iN hd (aF rfl ?_)))));exact hC hz (aF (aY (by simpa using hi)) (fq hg (aF rfl (iN hd h))))
theorem Us {z:Nat} {r:RR} {K:Nat→RR→OR} (h:Wp (K z r) Q):Wp (iX (.sl .own z r) K) Q:=h
theorem aq1 {L:RR} {z:Int} {i:Nat} {s:SR} {ss:List SR} (hL:L=ss.map cS) (hz:z=(i:Int)) (hs:ss[i]? = some s) {K:Nat→OR} (h:Wp (K i) Q) :
  Wp (aD (bY z) fun o8=>gd (decide (o8 < L.length)) (aD (L[0+o8]?) fun o9=>gd (decide (0+1+1+1+1+1+1+1+1+1≤o9.length)&&true) (cA [.any] (List.take 1 (List.drop 8 o9)) fun v10=>K o8))) Q:=by
 subst hL;have hi:i < ss.length:=(cw.1 hs).1;have hg:(ss.map cS)[0+i]? = some (cS s):=by rw [db,bS,hs];rfl
 exact hC hz (aF (aY (by simpa using hi)) (fq hg (aF rfl (iN (v:=(.sl s.wt 3 s.ws,())) rfl h))))
theorem Up {L:RR} {z:Int} {i x:Nat} {s:SR} {ss:List SR} (hL:L=ss.map cS) (hz:z=(i:Int)) (hs:ss[i]? = some s) (hw:s.wt = .own) (hx:x=s.ws.length) (hl:s.ws.length≤1000) {K:Nat→RR→OR} (h:Wp (K i s.ws) Q) :
  Wp (aD (L[0+i]?) fun oQ=>aD (oQ[0+1+1+1+1+1+1+1+1]?) fun Gz=>iX Gz fun Hw s6=>gd (Hw==3) (gd (x==s6.length&&true&&decide ((s6.length+1) * 40≤140737488355328)) (aD (bY z) fun na=>gd (decide (na < L.length)) (gd (Nat.beq (0+i) (0+na)) (aD (L[0+i]?) fun GC=>aD (GC[0+1+1+1+1+1+1+1+1]?) fun GD=>iX GD fun Hx r33=>gd (Hx==3) (aD ((cd L (0+i) 8 D.dead)[0+na]?) fun xP=>gd (decide (0+1+1+1+1+1+1+1+1+1≤xP.length)&&true) (cA [.any] (List.take 1 (List.drop 8 xP)) fun nu=>K na s6))))))) Q:=by
 subst hL;subst hx;have hi:i < ss.length:=(cw.1 hs).1;have hg:(ss.map cS)[0+i]? = some (cS s):=by rw [db,bS,hs];rfl
 have h8:(cS s)[0+1+1+1+1+1+1+1+1]? = some (.sl .own 3 s.ws):=by
  show some (D.sl s.wt 3 s.ws)=_;rw [hw]
 have hr:(cd (ss.map cS) (0+i) 8 D.dead)[0+i]? = some ((cS s).set 8 .dead):=by
  have:(ss.map cS).getD (0+i) []=cS s:=by simp [List.getD,hs]
  unfold cd;rw [this];simp [hi]
 refine fq hg (fq h8 (Us (aF rfl (aF (gX (by omega) (by omega)) (hC hz (aF (aY (by simpa using hi)) (aF (Nat.beq_refl _) ?_)))))));exact fq hg (fq h8 (Us (aF rfl (fq hr (aF rfl (iN (v:=(.dead,())) rfl h))))))
theorem aew {L:RR} {z:Int} {i:Nat} {s:SR} {ss:List SR} (hL:L=ss.map cS) (hz:z=(i:Int)) (hs:ss[i]? = some s) (hw:qN s.wt s.ws) (hl:s.ws.length≤1000) {K1:Nat→OR} {K2:Nat→Nat→RR→OR} (h1:s.ws=[]→Wp (K1 i) Q) (h2:Wp (K2 i i s.ws) Q) :
  Wp (aD (bY z) fun lT=>gd (decide (lT < L.length)) (aD (L[0+lT]?) fun GF=>gd (decide (0+1+1+1+1+1+1+1+1+1≤GF.length)) (cA [.sl 3] (List.take 1 (List.drop 8 GF)) fun v37=>zZ v37.1.1 fun t38=>zM t38 (fun Eh=>gd (Eh&&true&&true) (aD (bY z) fun o8=>gd (decide (o8 < L.length)) (aD (L[0+o8]?) fun o9=>gd (decide (0+1+1+1+1+1+1+1+1+1≤o9.length)&&true) (cA [.any] (List.take 1 (List.drop 8 o9)) fun v10=>K1 o8)))) (aD (L[0+lT]?) fun oQ=>aD (oQ[0+1+1+1+1+1+1+1+1]?) fun Gz=>iX Gz fun Hw s6=>gd (Hw==3) (gd (v37.1.2.length==s6.length&&true&&decide ((s6.length+1) * 40≤140737488355328)) (aD (bY z) fun na=>gd (decide (na < L.length)) (gd (Nat.beq (0+lT) (0+na)) (aD (L[0+lT]?) fun GC=>aD (GC[0+1+1+1+1+1+1+1+1]?) fun GD=>iX GD fun Hx r33=>gd (Hx==3) (aD ((cd L (0+lT) 8 D.dead)[0+na]?) fun xP=>gd (decide (0+1+1+1+1+1+1+1+1+1≤xP.length)&&true) (cA [.any] (List.take 1 (List.drop 8 xP)) fun nu=>K2 lT na s6)))))))))) Q:=by
 have fj:=hL;subst hL;have hi:i < ss.length:=(cw.1 hs).1;have hg:(ss.map cS)[0+i]? = some (cS s):=by rw [db,bS,hs];rfl
 have hd:dV [.sl 3] (List.take 1 (List.drop 8 (cS s)))=some ((s.wt,s.ws),()):=rfl;refine hC hz (aF (aY (by simpa using hi)) (fq hg (aF rfl (iN hd ?_))));rcases hw with hw | ⟨hw,mq⟩
 ·rw [hw];exact jb (Up rfl hz hs hw rfl hl h2)
 ·rw [hw];exact eZ (aF rfl (aq1 rfl hz hs (h1 mq)))
theorem xU {s:SR} (h:nS s) {w:WR} (hl:s.ws.length < 100):nS { s with wt:=.own,ws:=s.ws++[cW w] } := by
 obtain ⟨h1,h2,⟨l,h3,h3'⟩,h4⟩:=h;refine ⟨h1,h2,⟨l++[w],by simp [h3],?_⟩,.inl rfl⟩;rw [h3] at hl;simp at hl ⊢;omega
theorem WH.set {i:Nat} {s:SR} (h:WH N tt tm .own ss nz rm) (hs:nS s) {t:Tag} (ht:t = .own):WH N tt tm t (ss.set i s) nz rm:=by
 have mo:=h.se rfl;refine ⟨h.ot,.inl ht,h.nt,by have:=h.ns;simpa using this,h.kT,?_,h.n0,h.r1,h.r2,h.te,fun _=>by simpa using mo⟩;intro x hx;rcases UX hx with hx | hx
 ·exact h.kS x hx
 ·subst hx;exact hs
theorem uB {X:Type} {l x:List X} {a b:X}:((l++[a])++x).set l.length b=(l++[b])++x:=by
 rw [ek,ek,List.set_append_right _ _ (by omega)];simp
theorem BL {X:Type} {l x:List X} {a:X}:((l++[a])++x)[l.length]? = some a:=by
 rw [ek,nC (by omega)];simp
theorem aqA (hm:120≤m) (hN:N≤50000000) (H:WH N tt tm st ss nz rm) (hd:cQ d) {K:lB.T→OR}
  (h:∀dB ss' gR d',WH (N+12) .own dB .own ss' nz gR→(∃x,ss'=ss++x∧1≤x.length)→cQ d'→Wp (K ((),W k .own dB .own ss' nz gR,d',())) Q):Wp (Wd (T m) (W k tt tm st ss nz rm) d K) Q:=by
 obtain ⟨m,rfl⟩:=bm 2 m;have hl:=H.nt;have hs:=H.ns;have r1:=H.r1;have r2:=H.r2;have rest:∀(s0:SR) (x0:au aR) (x1:au ao) (a2:au eA) (z:Int) (yq:List TM),nS s0→s0.wt = .im true→s0.ws=[]→WH (N+4) .own yq .own (ss++[s0]) nz (rm - 1)→
   Wp (Rj (T (m+1)) (m+1) x0 x1 (m+1) (Wr k .own (yq.map bA) .own (cd ((ss++[s0]).map cS) (0+ss.length) 8 (.sl .own 3 [[.str [],.str [],.int .i64 z]])) nz (rm - 1)) d a2 (ss.length:Int)) (J lB K Q):=by
  intro s0 x0 x1 a2 z yq oJ hw0 zJ H3;have e1:(ss++[s0]).set ss.length { s0 with wt:=.own,ws:=[cW ⟨[],[],z⟩] } = ss++[{ s0 with wt:=.own,ws:=[cW ⟨[],[],z⟩] }]:=by
   have:=uB (l:=ss) (x:=[]) (a:=s0) (b:={ s0 with wt:=.own,ws:=[cW ⟨[],[],z⟩] });simpa using this
  rw [MC (s:=s0) (by simp)];have OT:(ss++[s0]).set ss.length { s0 with wt:=.own,ws:=[[D.str [],D.str [],D.int .i64 z]] } = ss++[{ s0 with wt:=.own,ws:=[cW ⟨[],[],z⟩] }]:=e1;rw [OT];have kx:nS { s0 with wt:=.own,ws:=[cW ⟨[],[],z⟩] } := by
   have:=xU oJ (w:=⟨[],[],z⟩) (by rw [zJ];simp);rw [zJ] at this;exact this
  have H4:WH (N+4) .own yq .own (ss++[{ s0 with wt:=.own,ws:=[cW ⟨[],[],z⟩] }]) nz (rm - 1):=by
   have:=H3.set (i:=ss.length) kx (t:=.own) rfl;rw [e1] at this;exact this
  generalize hS:({ s0 with wt:=.own,ws:=[cW ⟨[],[],z⟩] }:SR)=s1 at kx H4;have mq:s1.wt = .own:=by subst hS;rfl
  have JJ:s1.ws.length=1:=by subst hS;rfl
  have l4:=H4.nt;have l5:=H4.ns;refine aC akW (mI (m:=m+1) (by omega) ?_);refine rP (m:=m+1) (k:=k) (ss:=ss++[s1]) (by omega) (by omega) (.inl rfl) ?_;refine aqH (m:=m+1) (k:=k) (by omega) (by simp;omega) (.inl rfl) (qx H4.kT ⟨.inl rfl,rfl,rfl,iZ⟩) fun y ML hT4 Jt=>?_
  have Y7:ML.length=yq.length+4:=by rw [Jt];simp
  have H5:=H4.terms (M:=N+8) (dB:=ML) (by omega) (by have:=H3.nt;omega) hT4 (by intro h0;rw [h0] at Y7;simp at Y7);refine wD (m:=m+1) (k:=k) (by omega) (by omega) (.inl rfl) (by omega) (by omega) ?_;have H6:=H5.step (s:=⟨6,[],[],[],k.self,-1,false,[[.int .i64 (yq.length:Int)],[.int .i64 y]],true,[],.im true,[],-1⟩) ⟨⟨[_,_],rfl,by simp⟩,⟨[],rfl,by simp,by simp⟩,⟨[],rfl,by simp⟩,.inr ⟨rfl,rfl⟩⟩;refine MZ (m:=m+1) (k:=k) (by omega) (N:=N+9) (by omega) H6 fun nZ Dq H7 ⟨x,hx,vE⟩=>jb ?_
  have eV:nZ[ss.length]? = some s1:=by
   rw [hx,ek];exact BL
  have af:ss.length < nZ.length:=(cw.1 eV).1;refine hC rfl (aF (aY (by simpa [W] using af)) (fq (b:=cS s1) (by show (nZ.map cS)[0+ss.length]? = _;rw [db,bS,eV];rfl) (aF rfl (iN (v:=(s1.ws,())) ?_ ?_))))
  ·show dV [.own 3] [.sl s1.wt 3 s1.ws]=_;rw [mq];rfl
  refine Up (ss:=nZ) (s:=s1) rfl rfl eV mq rfl (by omega) (aA ?_);refine aE (x:=((),W k .own ML .own (nZ.set ss.length { s1 with wt:=.own,ws:=s1.ws++[cW ⟨[],[],((((ss++[s1])++[(⟨6,[],[],[],k.self,-1,false,[[.int .i64 (yq.length:Int)],[.int .i64 y]],true,[],.im true,[],-1⟩:SR)]).length:Nat):Int)⟩] }) nz Dq,d,())) ?_ (h _ _ _ _ ((H7.set (xU kx (by omega)) rfl).le (by omega)) ?_ hd)
  ·show ig lB (.aq [],[bx aR (Wr k .own (ML.map bA) .own (cd (cd (nZ.map cS) (0+ss.length) 8 .dead) (0+ss.length) 8 (.sl .own 3 (s1.ws++[cW ⟨[],[],((((ss++[s1])++[(⟨6,[],[],[],k.self,-1,false,[[.int .i64 (yq.length:Int)],[.int .i64 y]],true,[],.im true,[],-1⟩:SR)]).length:Nat):Int)⟩]))) nz Dq),bx ao d])=_;rw [MB eV];rfl
  ·rw [hx,ek _ _ x,uB];exact ⟨_,ek _ _ _,by simp⟩
 refine bH agq (mI (m:=m+1) (by omega) ?_);refine w_num (m:=m+1) (k:=k) (by omega) (by omega) H.ot ?_;refine rP (m:=m+1) (k:=k) (by omega) (by simp;omega) (.inl rfl) ?_;refine yv (m:=m+1) (k:=k) (by omega) (by simp;omega) (.inl rfl) ?_;have H2:=H.terms (M:=N+3) (dB:=_) (by omega) (by simp;omega) (xV (x:=⟨1,[],0,[],-1,-1⟩) (y:=⟨0,[110],0,[],-1,-1⟩) (c:=12) H.kT ⟨.inr (.inl rfl),rfl,rfl,iZ⟩ ⟨.inl rfl,rfl,rfl,iZ⟩ (.inr (.inr (.inr (.inl rfl)))) (.inl (by decide)));refine wD (m:=m+1) (k:=k) (by omega) (by omega) H.os (by omega) (by omega) ?_;refine aev (i:=ss.length) (s:=⟨3,[],[],[],[],((tm++[(⟨1,[],0,[],-1,-1⟩:TM)]++[(⟨0,[110],0,[],-1,-1⟩:TM)]).length:Int),true,[],true,[],.im true,[],-1⟩) rfl rfl (by simp) rfl ?_;exact rest _ _ _ _ _ _ nT rfl rfl (H2.step nT)
end
end
section
open Go Go.ax QQ
structure RL (k:WK) (L:LR):Prop where
 i:∃r:Nat,k.role=(r:Int)∧k.ty[r]? = some L
 l1:1≤L.ts.length
 l2:L.ts.length≤100
 ok:∀t∈L.ts,GL L.ts.length t
def HP (k:WK) (M:Nat) (ss:List SR) (K:lB.T→OR) (Q:V→List (List C)→Prop):Prop:=
 ∀la dB ss' oP gR d',WH M la dB .own ss' oP gR→(∃x,ss'=ss++x∧1≤x.length)→cQ d'→Wp (K ((),W k la dB .own ss' oP gR,d',())) Q
def Bd:Nat→Nat
 | 0=>20
 | e+1=>11 * Bd e+300
def uP (e:Nat):Prop:=∀(m N:Nat) (k:WK) (L:LR) (tt st:Tag) (tm:List TM) (ss:List SR) (nz rm:Int) (d:au ao) (od:Nat) (K:lB.T→OR) (Q:V→List (List C)→Prop),
 200+20 * e≤m→N+Bd e≤40000000→KH k→RL k L→od < L.ts.length→WH N tt tm st ss nz rm→cQ d→HP k (N+Bd e) ss K Q→Wp (En (T m) (od:Int) ((5 - e:Nat):Int) (W k tt tm st ss nz rm) d K) Q
section
variable {m N e:Nat} {Q:V→List (List C)→Prop} {k:WK} {L:LR} {tt st:Tag} {tm:List TM} {ss:List SR} {nz rm:Int} {d:au ao}
def HT (k:WK) (M:Nat) (ss:List SR) (z:Int) (K:uz.T→OR) (Q:V→List (List C)→Prop):Prop:=
 ∀la dB ss' oP gR d',WH M la dB .own ss' oP gR→(∃x,ss'=ss++x∧1≤x.length)→cQ d'→Wp (K (z,W k la dB .own ss' oP gR,d',())) Q
theorem OL (he:e≤4):ak (((4 - e:Nat):Int)+1)=((5 - e:Nat):Int):=by
 rw [show (((4 - e:Nat):Int)+1)=((5 - e:Nat):Int) by omega];exact gM rfl (by omega)
theorem acZ (hB:uP e) (he:e≤4) (hm:205+20 * e≤m) (hN:N+1+Bd e≤40000000) (hk:KH k) (hL:RL k L) {nx:Nat} (hx:nx < L.ts.length) (H:WH N tt tm st ss nz rm) (hd:cQ d) {x3:au aR} {x4:au ao} {z:Int} {a4:au jz} {q1:BB} {q2:Int} {q3:BB} {y1 y2:BB} {tz:Int} {K:uz.T→OR}
  (h:HT k (N+1+Bd e) ss z K Q) :
  Wp (CH (T m) m x3 x4 m ((4 - e:Nat):Int) (W k tt tm st ss nz rm) d z a4 (q1,q2,q3,(nx:Int),()) (4,[99],y1,y2,[],tz,(true,[]),(true,[]),(true,[]),-1,())) (J uz K Q):=by
 obtain ⟨j,hj⟩:=bm 1 m;have r1:=H.r1;have r2:=H.r2;have hs:=H.ns;have e1:∀w:Nat,CH (T m) m x3 x4 m ((4 - e:Nat):Int)=CH (T m) m x3 x4 (j+1) ((4 - e:Nat):Int):=fun _=>by rw [←hj]
 rw [e1 0];refine aC ala ?_;refine uH (m:=m) (k:=k) (by omega) (by omega) H.os (by omega) (by omega) ?_;rw [OL he];refine hB m (N+1) k L tt .own tm _ nz (rm - 1) d nx _ _ (by omega) (by omega) hk hL hx (H.step nT) hd fun la dB ss' oP gR d' H' vF dq=>aA ?_
 obtain ⟨x,rfl,vE⟩:=vF;exact aE rfl (h _ _ _ _ _ _ H' ⟨_,ek _ _ _,by simp⟩ dq)
theorem apr (hB:uP e) (he:e≤4) (hm:205+20 * e≤m) (hN:N+1+Bd e≤40000000) (hk:KH k) (hL:RL k L) {nx:Nat} (hx:nx < L.ts.length) (H:WH N tt tm st ss nz rm) (hd:cQ d) {x3:au aR} {x4:au ao} {z:Int} {a4:au jz} {q1:BB} {q2:Int} {q3:BB} {y1 y2:BB} {tz:Int} {a7:au eb} {K:uz.T→OR}
  (h:HT k (N+1+Bd e) ss z K Q) :
  Wp (F6 (T m) m x3 x4 m ((4 - e:Nat):Int) (W k tt tm st ss nz rm) d z a4 (q1,q2,q3,(nx:Int),()) (4,[99],y1,y2,[],tz,(true,[]),(true,[]),(true,[]),-1,()) a7) (J uz K Q):=by
 obtain ⟨j,hj⟩:=bm 1 m;have r1:=H.r1;have r2:=H.r2;have hs:=H.ns;have e1:∀w:Nat,F6 (T m) m x3 x4 m ((4 - e:Nat):Int)=F6 (T m) m x3 x4 (j+1) ((4 - e:Nat):Int):=fun _=>by rw [←hj]
 rw [e1 0];refine aC alb ?_;refine uH (m:=m) (k:=k) (by omega) (by omega) H.os (by omega) (by omega) ?_;rw [OL he];refine hB m (N+1) k L tt .own tm _ nz (rm - 1) d nx _ _ (by omega) (by omega) hk hL hx (H.step nT) hd fun la dB ss' oP gR d' H' vF dq=>aA ?_
 obtain ⟨x,rfl,vE⟩:=vF;exact aE rfl (h _ _ _ _ _ _ H' ⟨_,ek _ _ _,by simp⟩ dq)
theorem Ul (hB:uP e) (he:e≤4) (hm:208+20 * e≤m) (hN:N+20+Bd e≤40000000) (hk:KH k) (hL:RL k L) {od arm:Nat} {t:TN} (ht:L.ts[od]? = some t) (ha:arm < t.ms.length) (H:WH N tt tm st ss nz rm) (hd:cQ d) {K:uz.T→OR}
  (h:HT k (N+20+Bd e) ss (ss.length:Int) K Q):Wp (c145 (T m) (od:Int) (arm:Int) ((4 - e:Nat):Int) (W k tt tm st ss nz rm) d K) Q:=by
 obtain ⟨m,rfl⟩:=cE hm;have hn:ae (ss.map cS).length=(ss.length:Int):=by rw [bI];simp
 rw [←hn] at h;have hl:=H.nt;have hs:=H.ns;obtain ⟨r,jX,pB⟩:=hL.i;have hga:t.ms[arm]? = some t.ms[arm]:=gE ha;have vC:t∈L.ts:=ft ht;have Ca:t.ms[arm].nx < L.ts.length:=by
  rcases hL.ok t vC with ⟨_,h2⟩ | ⟨_,_,_,h2⟩
  ·rw [h2] at ha;simp at ha
  ·exact h2 _ (bM ha)
 have mono:∀{M:Nat},M+1+Bd e≤N+20+Bd e→∀{wq:List SR},(∃x,wq=ss++x)→HT k (M+1+Bd e) wq (ae (ss.map cS).length) K Q:=by
  intro M hM wq ⟨x,hx⟩ la dB ss' oP gR d' H' ⟨y,hy,zK⟩ dq;exact h _ _ _ _ _ _ (H'.le hM) ⟨x++y,by rw [hy,hx,ek],by simp;omega⟩ dq
 have self:∃x,ss=ss++x:=⟨[],by simp⟩
 refine bH agJ ?_;rcases H.os with bp | ⟨bp,Ch⟩<;>subst bp
 all_goals (
   first | refine jb ?_ | refine eZ ?_
   refine aM S5 jX pB ?_
   refine aM S6 rfl ht ?_
   refine aM (enc := cM) (f := fun a => (a.mw, a.kd, a.nm, (a.nx : Int), ())) (fun a => ⟨by simp [cM], rfl⟩) rfl hga ?_
   refine mI (m := m) (by omega) (aj (fun h1 => ?_) (fun h1 => aj (fun h2 => ?_) (fun h2 => ?_)))
   · exact acZ (k := k) hB he (by omega) (by omega) hk hL Ca H hd (mono (by omega) self)
   · refine aer (m := m) (k := k) (by omega) hk fun p hp ro zF => ?_
     refine Uk (m := m) (k := k) (by omega) (N := N) (by omega) H hd (hk.p2 p hp) fun s ti rJ wq sW s7 d1 H1 vE cJ => ?_
     have l1 := H1.nt
     refine rP (m := m) (k := k) (by omega) (by omega) H1.ot ?_
     exact apr (k := k) hB he (by omega) (N := N + 13) (by omega) hk hL Ca (H1.terms (by omega) (by simp; omega) (qx H1.kT ⟨.inl rfl, rfl, rfl, iZ⟩)) cJ (mono (by omega) vE)
   · refine aqD (m := m) (k := k) (by omega) (by omega) H hd fun z rJ d1 hT1 jH ajJ cJ => ?_
     exact acZ (k := k) hB he (by omega) (N := N + 3) (by omega) hk hL Ca (H.terms (by omega) (by omega) hT1 ajJ) cJ (mono (by omega) self))
end
end
section
open Go Go.ax QQ
section
variable {m N e:Nat} {Q:V→List (List C)→Prop} {k:WK} {L:LR} {tt st:Tag} {tm:List TM} {ss:List SR} {nz rm:Int} {d:au ao}
theorem YS (hB:uP e) (he:e≤4) (q:Nat) (hq:205+20 * e≤q) (hk:KH k) (hL:RL k L) {M:Nat} (hM:M≤40000000) {t:TN} (ht:t∈L.ts) (B8:t.ms.length≤10) {x2:au aR} {x3:au ao} {K:lB.T→OR}
  (h:HP k M ss K Q):∀(c i N:Nat) (tt:Tag) (tm:List TM) (s:SR) (x:List SR) (nz rm:Int) (d:au ao),c≤q→t.ms.length - i < c→i≤t.ms.length→N+(t.ms.length - i) * (Bd e+10)+10≤M→nS s→s.ws.length≤i→WH N tt tm .own ((ss++[s])++x) nz rm→cQ d→
   Wp (CF (T q) q x2 x3 c ((4 - e:Nat):Int) (W k tt tm .own ((ss++[s])++x) nz rm) d (t.kd,t.pr,(t.t,t.ms.map cM),()) (ss.length:Int) (i:Int)) (J lB K Q)
 | 0,i,N,tt,tm,s,x,nz,rm,d,_,hc,_,_,_,_,_,_=>by omega
 | c+1,i,N,tt,tm,s,x,nz,rm,d,E0,hc,hi,hN,hs,hw,H,hd=>by
  have ls:=H.ns;have lt:=H.nt;have r1:=H.r1;have r2:=H.r2;refine aC ak2 (aj (fun h1=>?_) (fun h1=>?_))
  ·have af:i < t.ms.length:=bN h1;have hN':N+(Bd e+10)+(t.ms.length - (i+1)) * (Bd e+10)+10≤M:=by
    have:(t.ms.length - i)=(t.ms.length - (i+1))+1:=by omega
    rw [this,Nat.succ_mul] at hN;omega
   have hg:t.ms[i]? = some t.ms[i]:=gE af;have Ca:t.ms[i].nx < L.ts.length:=by
    rcases hL.ok t ht with ⟨_,h2⟩ | ⟨_,_,_,h2⟩
    ·rw [h2] at af;simp at af
    ·exact h2 _ (bM af)
   have Qh:(t.ms.map cM)[i]? = some (cM t.ms[i]):=by rw [bS,hg];rfl
   have JK:=wI i;have rest:∀(ti:Tag) (rJ:List TM) (DB:Tag) (x1:List SR) (sW s7:Int) (d1:au ao) (y1 y2:BB) (y3:Int),WH (N+5) ti rJ DB ((ss++[s])++x1) sW s7→cQ d1→
     Wp (CG (T q) q x2 x3 c q ((4 - e:Nat):Int) (W k ti rJ DB ((ss++[s])++x1) sW s7) d1 (t.kd,t.pr,(t.t,t.ms.map cM),()) (ss.length:Int) (i:Int) (y1,y2,y3,())) (J lB K Q):=by
    intro ti rJ DB x1 sW s7 d1 y1 y2 y3 H1 cJ;obtain ⟨j,hj⟩:=bm 1 q;have e1:CG (T q) q x2 x3 c q ((4 - e:Nat):Int)=CG (T q) q x2 x3 c (j+1) ((4 - e:Nat):Int):=by rw [←hj]
    rw [e1];refine aC ak3 ?_;refine aM yd rfl hg ?_;rw [OL he];refine hB q (N+5) k L ti DB rJ _ sW s7 d1 _ _ _ (by omega) (by omega) hk hL Ca H1 cJ fun DJ DC yp nz2 Dp d2 H2 vF fk=>jb ?_
    obtain ⟨y,hy,zK⟩:=vF;have fR:yp=(ss++[s])++(x1++y):=by rw [hy];simp
    have eV:yp[ss.length]? = some s:=by rw [fR];exact BL
    rw [JK];have dh:∀(s2:SR),nS s2→s2.ws.length≤i+1→Wp (CF (T q) q x2 x3 c ((4 - e:Nat):Int) (Wr k DJ (DC.map bA) .own ((yp.set ss.length s2).map cS) nz2 Dp) d2 (t.kd,t.pr,(t.t,t.ms.map cM),()) (ss.length:Int) ((i+1:Nat):Int)) (J lB K Q):=by
     intro s2 lu mq;have H3:=H2.set (i:=ss.length) lu (t:=.own) rfl;rw [fR,uB] at H3 ⊢;exact YS hB he q hq hk hL hM ht B8 h c (i+1) (N+(Bd e+10)) DJ DC s2 (x1++y) nz2 Dp d2 (by omega) (by omega) (by omega) hN' lu mq (H3.le (by omega)) fk
    refine aew (ss:=yp) (s:=s) rfl rfl eV hs.2.2.2 (by omega) (fun h0=>?_) ?_
    ·have:=xU hs (w:=⟨y1,y2,y3⟩) (by omega);rw [h0] at this;have g:=dh _ this (by simp);rw [←MC eV] at g;exact g
    ·have g:=dh _ (xU hs (w:=⟨y1,y2,y3⟩) (by omega)) (by simp;omega);rw [←MB eV] at g;exact g
   refine aM Dm rfl hg (jb ?_);refine hC rfl (fq Qh (aF rfl (iN (v:=(t.ms[i].kd,())) rfl (aj (fun h2=>?_) (fun h2=>?_)))))
   ·obtain ⟨z,rfl,hz⟩:=H.n0;refine aed (m:=q) (k:=k) (by omega) (by omega) fun y g1 g2=>?_
    refine aM GY rfl hg ?_;refine aqY (m:=q) (k:=k) (by omega) (N:=N+1) (by omega) H.fresh hk hd fun ti rJ DB wq s7 d1 H1 vF cJ=>?_
    obtain ⟨y2,rfl⟩:=vF;have:=rest ti rJ DB (x++y2) _ s7 d1 t.ms[i].mw y (ae (((ss++[s])++x).map cS).length) (by rw [←ek];exact H1.le (by omega)) cJ;rw [←ek] at this;exact this
   ·exact rest tt tm .own x nz rm d _ _ _ (H.le (by omega)) hd
  ·refine jQ (m:=q) (n:=3) (by omega) (by omega) (by omega) hd fun j d1 hj cJ=>aj (fun h2=>jb ?_) (fun h2=>?_)
   ·refine mI (m:=q) (by omega) (AK (m:=q) (k:=k) (by omega) (by omega) H.ot ?_);refine uH (m:=q) (k:=k) (by omega) (by omega) H.os (by omega) (by omega) (mI (m:=q) (by omega) ?_);have H2:=H.terms (M:=N+1) (dB:=tm++[(⟨3,[],0,[108,111,115,116],-1,-1⟩:TM)]) (by omega) (by simp;omega) (qx H.kT ⟨.inr (.inr (.inl rfl)),rfl,rfl,iZ⟩);refine wD (m:=q) (k:=k) (by omega) (by simp at ls ⊢;omega) (.inl rfl) (by omega) (by omega) ?_;have H3:=(H2.step (s:=⟨2,[],[],[],[],(tm.length:Int),true,[],true,[],.im true,[],((((ss++[s])++x).length+1:Nat):Int)⟩) nT).step (s:=⟨0,[],[],[],[],-1,true,[],true,[],.im true,[],-1⟩) nT;have fin:∀(s2:SR) (x2:List SR),nS s2→WH (N+1+1+1) .own (tm++[(⟨3,[],0,[108,111,115,116],-1,-1⟩:TM)]) .own ((ss++[s2])++x2) nz (rm - 1 - 1)→Wp (K ((),W k .own (tm++[(⟨3,[],0,[108,111,115,116],-1,-1⟩:TM)]) .own ((ss++[s2])++x2) nz (rm - 1 - 1),d1,())) Q:=
     fun s2 x2 lu H5=>h _ _ _ _ _ _ (H5.le (by omega)) ⟨_,ek _ _ _,by simp⟩ cJ
    generalize ZG:(⟨2,[],[],[],[],(tm.length:Int),true,[],true,[],.im true,[],((((ss++[s])++x).length+1:Nat):Int)⟩:SR)=sa at H3;generalize JN:(⟨0,[],[],[],[],-1,true,[],true,[],.im true,[],-1⟩:SR)=sb at H3;have eV:(((ss++[s])++x)++[sa]++[sb])[ss.length]? = some s:=by
     rw [show ((ss++[s])++x)++[sa]++[sb]=(ss++[s])++(x++[sa]++[sb]) by simp];exact BL
    have dh:∀(s2:SR),nS s2→Wp (aH lB (some (.aq [],[bx aR (Wr k .own ((tm++[(⟨3,[],0,[108,111,115,116],-1,-1⟩:TM)]).map bA) .own (((((ss++[s])++x)++[sa]++[sb]).set ss.length s2).map cS) nz (rm - 1 - 1)),bx ao d1])) K) Q:=by
     intro s2 lu;have H4:=H3.set (i:=ss.length) lu (t:=.own) rfl;rw [show ((ss++[s])++x)++[sa]++[sb]=(ss++[s])++(x++[sa]++[sb]) by simp,uB] at H4 ⊢;exact aE rfl (fin s2 _ lu H4)
    subst ZG JN;refine aew (s:=s) rfl rfl eV hs.2.2.2 (by omega) (fun h0=>aA ?_) (aA ?_)
    ·have:=xU hs (w:=⟨[],[],ae (((ss++[s])++x).map cS).length⟩) (by omega);rw [h0] at this;have g:=dh _ this;rw [←MC eV] at g;exact g
    ·have g:=dh _ (xU hs (w:=⟨[],[],ae (((ss++[s])++x).map cS).length⟩) (by omega));rw [←MB eV] at g;exact g
   ·exact aA (aE rfl (h _ _ _ _ _ _ (H.le (by omega)) ⟨[s]++x,by simp,by simp⟩ cJ))
theorem aqF (hB:uP e) (he:e≤4) (hm:208+20 * e≤m) (hN:N+11 * Bd e+200≤40000000) (hk:KH k) (hL:RL k L) {od:Nat} {t:TN} (ht:L.ts[od]? = some t) (H:WH N tt tm st ss nz rm) (hd:cQ d) {K:lB.T→OR}
  (h:HP k (N+11 * Bd e+200) ss K Q):Wp (c143 (T m) (od:Int) ((4 - e:Nat):Int) (W k tt tm st ss nz rm) d K) Q:=by
 obtain ⟨m,rfl⟩:=cE hm;have hs:=H.ns;have r1:=H.r1;have r2:=H.r2;obtain ⟨r,jX,pB⟩:=hL.i;have vC:t∈L.ts:=ft ht;have B8:t.ms.length≤10:=by
  rcases hL.ok t vC with ⟨_,h2⟩ | ⟨_,_,h2,_⟩
  ·rw [h2];simp
  ·exact h2
 refine bH agz ?_;refine aM S5 jX pB ?_;refine aM S6 rfl ht ?_;refine mI (m:=m) (by omega) (wD (m:=m) (k:=k) (by omega) (by omega) H.os (by omega) (by omega) ?_);have hNN:N+1+(t.ms.length - 0) * (Bd e+10)+10≤N+11 * Bd e+200:=by
  have:(t.ms.length - 0) * (Bd e+10)≤10 * (Bd e+10):=pY _ (by omega);omega
 have:=YS hB he m (by omega) hk hL hN vC B8 h m 0 (N+1) tt tm ⟨5,[99],t.pr,[],[],-1,true,[],true,[],.im true,[],-1⟩ [] nz (rm - 1) d (by omega) (by omega) (by omega) hNN nT (by simp) (by rw [mJ];exact H.step nT) hd (x2:=W k tt tm st ss nz rm) (x3:=d);rw [mJ] at this;exact this
end
end
section
open Go Go.ax QQ
section
variable {m N e:Nat} {Q:V→List (List C)→Prop} {k:WK} {L:LR} {tt st:Tag} {tm:List TM} {ss:List SR} {nz rm:Int} {d:au ao}
theorem Va:∀e,20≤Bd e
 | 0=>by decide
 | e+1=>by have:=Va e;unfold Bd;omega
theorem afb (hB:uP e) (he:e≤4) (hm:210+20 * e≤m) (hN:N+30+Bd e≤40000000) (hk:KH k) (hL:RL k L) {od arm:Nat} {t:TN} (ht:L.ts[od]? = some t) (ha:arm < t.ms.length)
  {s0:SR} {x:List SR} {z:Int} (oJ:nS s0) (hw0:s0.wt = .im true) (zJ:s0.ws=[]) (H:WH N tt tm .own ((ss++[s0])++x) nz rm) (hd:cQ d) {x2:au aR} {x3:au ao} {a4:au jz} {a5:au eA} {K:lB.T→OR}
  (h:HP k (N+20+Bd e) ss K Q) :
  Wp (zU (T m) m x2 x3 m (od:Int) ((4 - e:Nat):Int) (Wr k tt (tm.map bA) .own (cd (((ss++[s0])++x).map cS) (0+ss.length) 8 (.sl .own 3 [[.str [],.str [],.int .i64 z]])) nz rm) d a4 a5 (ss.length:Int) (arm:Int)) (J lB K Q):=by
 obtain ⟨j,hj⟩:=bm 1 m;have e1:zU (T m) m x2 x3 m=zU (T m) m x2 x3 (j+1):=by rw [←hj]
 rw [e1,MC (s:=s0) BL];have kx:nS { s0 with wt:=.own,ws:=[[D.str [],D.str [],D.int .i64 z]] } := by
  have:=xU oJ (w:=⟨[],[],z⟩) (by rw [zJ];simp);rw [zJ] at this;exact this
 have H2:=H.set (i:=ss.length) kx (t:=.own) rfl;rw [uB] at H2 ⊢;generalize hS:({ s0 with wt:=.own,ws:=[[D.str [],D.str [],D.int .i64 z]] }:SR)=s1 at kx H2;have mq:s1.wt = .own:=by subst hS;rfl
 have JJ:s1.ws.length=1:=by subst hS;rfl
 refine aC akZ ?_;refine Ul (m:=m) (k:=k) (ss:=(ss++[s1])++x) hB he (by omega) (N:=N) (by omega) hk hL ht ha H2 hd fun T7 T0 nZ R9 Dq d5 H7 ⟨y,hy,zK⟩ E2=>jb ?_
 have eV:nZ[ss.length]? = some s1:=by rw [hy,ek];exact BL
 have af:ss.length < nZ.length:=(cw.1 eV).1;refine hC rfl (aF (aY (by simpa [W] using af)) (fq (b:=cS s1) (by show (nZ.map cS)[0+ss.length]? = _;rw [db,bS,eV];rfl) (aF rfl (iN (v:=(s1.ws,())) ?_ ?_))))
 ·show dV [.own 3] [.sl s1.wt 3 s1.ws]=_;rw [mq];rfl
 refine Up (ss:=nZ) (s:=s1) rfl rfl eV mq rfl (by omega) (aA ?_);refine aE (x:=((),W k T7 T0 .own (nZ.set ss.length { s1 with wt:=.own,ws:=s1.ws++[cW ⟨[],[],((((ss++[s1])++x).length:Nat):Int)⟩] }) R9 Dq,d5,())) ?_ (h _ _ _ _ _ _ ((H7.set (xU kx (by omega)) rfl).le (by omega)) ?_ E2)
 ·show ig lB (.aq [],[bx aR (Wr k T7 (T0.map bA) .own (cd (cd (nZ.map cS) (0+ss.length) 8 .dead) (0+ss.length) 8 (.sl .own 3 (s1.ws++[cW ⟨[],[],((((ss++[s1])++x).length:Nat):Int)⟩]))) R9 Dq),bx ao d5])=_;rw [MB eV];rfl
 ·rw [hy,ek _ x y,uB];exact ⟨_,ek _ _ _,by simp⟩
theorem VU (e:Nat) (he:e≤5) (hp:∀e',e=e'+1→uP e'):uP e:=by
 intro m N k L tt st tm ss nz rm d od K Q hm hN hk hL htu H hd h;obtain ⟨m,rfl⟩:=cE hm;obtain ⟨r,jX,pB⟩:=hL.i;have ht:L.ts[od]? = some L.ts[od]:=gE htu;generalize L.ts[od]=t at ht;have vC:t∈L.ts:=ft ht;have hb:=Va e;have ls:=H.ns;have lt:=H.nt;have r1:=H.r1;have r2:=H.r2;refine bH agu ?_;refine aM S5 jX pB ?_;refine aM S6 rfl ht (aj (fun h1=>?_) (fun h1=>?_))
 ·refine MZ (m:=m) (k:=k) (by omega) (N:=N) (by omega) H fun ss' gR H' hx=>aA ?_
  exact aE rfl (h _ _ _ _ _ _ (H'.le (by omega)) hx hd)
 have nK:t.kd≠0:=by simpa using h1
 have B8:1≤t.ms.length:=by
  rcases hL.ok t vC with ⟨h2,_⟩ | ⟨_,h2,_,_⟩
  ·exact absurd h2 nK
  ·exact h2
 have aru:t.ms.length≤10:=by
  rcases hL.ok t vC with ⟨h2,_⟩ | ⟨_,_,h2,_⟩
  ·exact absurd h2 nK
  ·exact h2
 refine aj (fun h2=>aj (fun h3=>aj (fun h4=>?_) (fun h4=>?_)) (fun h3=>?_)) (fun h2=>?_)
 ·refine aqA (m:=m) (k:=k) (by omega) (N:=N) (by omega) H hd fun dB ss' gR d' H' hx dq=>aA ?_
  exact aE rfl (h _ _ _ _ _ _ (H'.le (by omega)) hx dq)
 all_goals (
   refine aj (fun h5 => ?_) (fun h5 => aj (fun h6 => ?_) (fun h6 => ?_))
   · refine MZ (m := m) (k := k) (by omega) (N := N) (by omega) H fun ss' gR H' hx => aA ?_
     exact aE rfl (h _ _ _ _ _ _ (H'.le (by omega)) hx hd)
   · refine MZ (m := m) (k := k) (by omega) (N := N) (by omega) H fun ss' gR H' hx => aA ?_
     exact aE rfl (h _ _ _ _ _ _ (H'.le (by omega)) hx hd)
   cases e with
   | zero => exact absurd h6 (by decide)
   | succ e =>
     have hB := hp e rfl
     rw [show 5 - (e + 1) = 4 - e by omega]
     have hbe : Bd (e + 1) = 11 * Bd e + 300 := rfl
     have say : ∀ {d1 : au ao} (j : Nat), j < (t.ms.map cM).length → cQ d1 → Wp (c145 (T m) (od : Int) (j : Int) ((4 - e : Nat) : Int) (W k tt tm st ss nz rm) d1 fun fc => (some ((.aq []), [(bx aR fc.2.1), (bx ao fc.2.2.1)]))) (J lB K Q) := by
       intro d1 j hj cJ
       refine Ul (m := m) (k := k) hB (by omega) (by omega) (N := N) (by omega) hk hL ht (by simpa using hj) H cJ fun la dB ss' oP gR d' H' hx dq => aA ?_
       exact aE rfl (h _ _ _ _ _ _ (H'.le (by omega)) hx dq)
     refine aj (fun h7 => ?_) (fun h7 => aj (fun h8 => aj (fun h9 => ?_) (fun h9 => ?_)) (fun h8 => ?_))
     · refine aqF (m := m) (k := k) hB (by omega) (by omega) (N := N) (by omega) hk hL ht H hd fun la dB ss' oP gR d' H' hx dq => aA ?_
       exact aE rfl (h _ _ _ _ _ _ (H'.le (by omega)) hx dq)
     · refine mI (m := m) (by omega) (jQ (m := m) (n := 3) (by omega) (by omega) (by omega) hd fun j0 d0 Jp E1 => ?_)
       refine w_num (m := m) (k := k) (by omega) (by omega) H.ot ?_
       refine rP (m := m) (k := k) (by omega) (by simp; omega) (.inl rfl) ?_
       refine yv (m := m) (k := k) (by omega) (by simp; omega) (.inl rfl) ?_
       have H2 := H.terms (M := N + 3) (dB := _) (by omega) (by simp; omega) (xV (x := ⟨1, [], (j0 : Int), [], -1, -1⟩) (y := ⟨0, [110], 0, [], -1, -1⟩) (c := 12) H.kT ⟨.inr (.inl rfl), rfl, rfl, iZ⟩ ⟨.inl rfl, rfl, rfl, iZ⟩ (.inr (.inr (.inr (.inl rfl)))) (.inl (show (1 : Int) ≠ 0 by decide)))
       refine wD (m := m) (k := k) (by omega) (by omega) H.os (by omega) (by omega) ?_
       refine jQ (m := m) (n := (t.ms.map cM).length) (by omega) (by simp; omega) (by simp; omega) E1 fun j1 d1 xm cJ => ?_
       refine jQ (m := m) (n := (t.ms.map cM).length) (by omega) (by simp; omega) (by simp; omega) cJ fun j2 d2 lp fk => ?_
       have H3 := H2.step (s := (⟨3, [], [], [], [], (((tm ++ [(⟨1, [], (j0 : Int), [], -1, -1⟩ : TM)] ++ [(⟨0, [110], 0, [], -1, -1⟩ : TM)]).length : Nat) : Int), true, [], true, [], .im true, [], -1⟩ : SR)) nT
       refine Ul (m := m) (k := k) hB (by omega) (by omega) (N := N + 3 + 1) (by omega) hk hL ht (by simpa using xm) H3 fk fun T7 T0 nZ R9 Dq d5 H5 ⟨y, hy, zK⟩ E2 => jb ?_
       have eV : nZ[ss.length]? = some (⟨3, [], [], [], [], (((tm ++ [(⟨1, [], (j0 : Int), [], -1, -1⟩ : TM)] ++ [(⟨0, [110], 0, [], -1, -1⟩ : TM)]).length : Nat) : Int), true, [], true, [], .im true, [], -1⟩ : SR) := by rw [hy]; exact BL
       refine aev (ss := nZ) rfl rfl eV rfl ?_
       subst hy
       exact afb (k := k) hB (by omega) (by omega) (N := N + 4 + 20 + Bd e) (by omega) hk hL ht (by simpa using lp) nT rfl rfl (H5.le (by omega)) E2 (fun la dB ss' oP gR d' H' hx dq => h _ _ _ _ _ _ (H'.le (by omega)) hx dq)
     · refine jQ (m := m) (n := (t.ms.map cM).length) (by omega) (by simp; omega) (by simp; omega) hd fun j1 d1 xm cJ => ?_
       exact say j1 xm cJ
     · refine jQ (m := m) (n := (t.ms.map cM).length) (by omega) (by simp; omega) (by simp; omega) hd fun j1 d1 xm cJ => ?_
       exact say j1 xm cJ)
theorem VP:∀e,e≤5→uP e
 | 0,h=>VU 0 h (fun e' he=>by omega)
 | e+1,h=>VU (e+1) h (fun e' he=>by rw [show e'=e by omega];exact VP e (by omega))
end
end
section
open Go Go.ax QQ
def aU (n:Nat):List D:=[.int .i64 (n:Int)]
theorem gQ:∀a:Nat,0+1≤(aU a).length∧dV cf (List.take 1 (List.drop 0 (aU a)))=some ((fun b=>((b:Int),())) a):=(fun a=>⟨by simp [aU],rfl⟩)
def gn (b:Bool):List D:=[.bool b]
theorem Dk:∀a:Bool,0+1≤(gn a).length∧dV [DS.bool] (List.take 1 (List.drop 0 (gn a)))=some ((fun b=>(b,())) a):=(fun a=>⟨by simp [gn],rfl⟩)
def xT (ps:List PT):Prop:=ps.length≤24∧∀p∈ps,p.ms.length≤10∧∀a∈p.ms,a.nx < ps.length
theorem GN:∀l:List Nat,aW (l.map aU)=l.map aU
 | []=>rfl
 | a::t=>by simp only [gl,aW,GN t];rfl
theorem count_set:∀(l:List Bool) (i:Nat),l[i]? = some false→(l.set i true).count true=l.count true+1
 | [],i,h=>by simp at h
 | a::t,0,h=>by
  simp at h;subst h;simp [UN]
 | a::t,i+1,h=>by
  simp at h;simp only [List.set_cons_succ,UN];rw [count_set t i (by simpa using h)];omega
theorem MA {l:List Bool} {i:Nat} (h:i < l.length) {b:Bool}:cd (l.map gn) (0+i) 0 (.bool b)=(l.set i b).map gn:=by
 have:(l.map gn).getD (0+i) []=gn l[i]:=by simp [List.getD,h]
 unfold cd;rw [this,db,AW];rfl
section
variable {m:Nat} {Q:V→List (List C)→Prop}
theorem Un (hm:1≤m) {a b:BB} {c:Bool} {r:RR} {e:BB} {K:bj.T→OR} (h:Wp (K (a==e||b==e,())) Q):Wp (Io (T m) a b c r e K) Q:=by
 obtain ⟨m,rfl⟩:=cE hm;refine bH ag6 (aj (fun h1=>aA ?_) (fun h1=>aA ?_))
 ·rw [h1] at h;exact aE rfl h
 ·rw [h1] at h;exact aE rfl h
theorem TE (q:Nat) (met:List Bool) (hM:met.length≤100) {K:df.T→OR} (h:∀b (l:List Nat),(∀x∈l,x < met.length)→l.length≤met.length→Wp (K ((b,l.map aU),())) Q) :
  ∀(c i:Nat) (l:List Nat),met.length - i < c→i≤met.length→(∀x∈l,x < met.length)→l.length≤i→Wp (Ge (T q) q c (met.map gn) (l.map aU) (i:Int)) (J df K Q)
 | 0,i,l,hc,_,_,_=>by omega
 | c+1,i,l,hc,hi,hl,Y9=>by
  refine aC al1 (aj (fun h1=>?_) (fun h1=>?_))
  ·have af:i < met.length:=bN h1;have hw:=wI i;refine oe Dk rfl (gE af) (aj (fun h2=>?_) (fun h2=>?_))
   ·refine aF (gX (by simp;omega) (by omega)) ?_;rw [hw,du];have:=TE q met hM h c (i+1) (l++[i]) (by omega) (by omega) (by intro x hx;rw [dC] at hx;rcases hx with hx | hx;exact hl x hx;simp at hx;omega) (by simp;omega);rw [eB] at this;exact this
   ·rw [hw];exact TE q met hM h c (i+1) l (by omega) (by omega) hl (by omega)
  ·refine aF (by simp) ?_;rw [du,GN];exact aA (aE rfl (h false l hl (by omega)))
theorem TD (q:Nat) (met:List Bool) (hM:met.length≤100) {K:df.T→OR} (h:∀b (l:List Nat),(∀x∈l,x < met.length)→l.length≤met.length→Wp (K ((b,l.map aU),())) Q) :
  ∀(c i:Nat),c≤q→met.length - i < c→i≤met.length→Wp (Gd (T q) q c (met.map gn) true [] (i:Int)) (J df K Q)
 | 0,i,_,hc,_=>by omega
 | c+1,i,hq,hc,hi=>by
  refine aC al0 (aj (fun h1=>?_) (fun h1=>?_))
  ·have af:i < met.length:=bN h1;have hw:=wI i;refine oe Dk rfl (gE af) (aj (fun h2=>?_) (fun h2=>?_))
   ·refine aF rfl ?_;rw [hw];exact TE q met hM h c (i+1) [i] (by omega) (by omega) (by intro x hx;simp at hx;omega) (by simp)
   ·rw [hw];exact TD q met hM h c (i+1) (by omega) (by omega) (by omega)
  ·exact aA (aE rfl (h true [] (by intro x hx;cases hx) (by simp)))
theorem TF (q:Nat) (hq:100≤q) {ps:List PT} (hP:xT ps) (role:BB) (a1:au eb) (c1:Nat) (i:Nat) {p:PT} (hp:p∈ps)
  (hZ:∀(met:List Bool) (todo:List Nat),met.length=ps.length→todo.length=met.count true→(∀x∈todo,x < ps.length)→i < todo.length→Wp (CP (T q) q c1 role a1 (met.map gn) (todo.map aU) ((i+1:Nat):Int)) Q) :
  ∀(c j:Nat) (met:List Bool) (todo:List Nat),p.ms.length - j < c→j≤p.ms.length→met.length=ps.length→todo.length=met.count true→(∀x∈todo,x < ps.length)→i < todo.length→
   Wp (Gf (T q) q c1 c role a1 (met.map gn) (todo.map aU) (i:Int) (p.fr,p.to,(p.t,p.ms.map cM),()) (j:Int)) Q
 | 0,j,met,todo,hc,_,_,_,_,_=>by omega
 | c+1,j,met,todo,hc,hj,h1,h2,h3,h4=>by
  have dj:=(hP.2 p hp).1;have aS:met.count true≤met.length:=HA;have cX:=hP.1;have JK:=wI i;refine aC al5 (aj (fun g1=>?_) (fun g1=>?_))
  ·have af:j < p.ms.length:=bN g1;refine Un (m:=q) (by omega) (aj (fun g2=>?_) (fun g2=>?_))
   ·obtain ⟨r,hr⟩:=bm 1 q;have e1:KM (T q) q c1 c q=KM (T q) q c1 c (r+1):=by rw [←hr]
    have hg:p.ms[j]? = some p.ms[j]:=gE af;have Ca:=(hP.2 p hp).2 _ (bM af);have jr:p.ms[j].nx < met.length:=by omega
    have ZF:=wI j;rw [e1];refine aC al6 ?_;refine aM yd rfl hg ?_;refine oe Dk rfl (gE jr) (aj (fun g3=>?_) (fun g3=>?_))
    ·have xj:met[p.ms[j].nx]? = some false:=by
      rw [gE jr];have:met[p.ms[j].nx]=false:=by simpa using g3
      rw [this]
     refine aM yd rfl hg ?_;refine hC rfl (aF (aY (by simpa using jr)) (fq (b:=gn false) (by rw [db,bS,xj];rfl) (aF rfl (iN (v:=(false,())) rfl ?_))));refine aM yd rfl hg (aF (gX (by simp;omega) (by omega)) ?_);rw [MA jr,du,ZF];have eF:=count_set met _ xj;have:=TF q hq hP role a1 c1 i hp hZ c (j+1) (met.set p.ms[j].nx true) (todo++[p.ms[j].nx]) (by omega) (by omega) (by simpa using h1) (by rw [eF];simp;omega)
      (by intro x hx;rw [dC] at hx;rcases hx with hx | hx;exact h3 x hx;simp at hx;omega) (by simp;omega)
     rw [eB] at this;exact this
    ·rw [ZF];exact TF q hq hP role a1 c1 i hp hZ c (j+1) met todo (by omega) (by omega) h1 h2 h3 h4
   ·rw [JK];exact hZ met todo h1 h2 h3 h4
  ·rw [JK];exact hZ met todo h1 h2 h3 h4
theorem adr (q:Nat) (hq:100≤q) {ps:List PT} (hP:xT ps) (role:BB) (nm:BB) (rs:Bool×RR) (pb:Bool) {K:df.T→OR} (h:∀b (l:List Nat),(∀x∈l,x < ps.length)→l.length≤ps.length→Wp (K ((b,l.map aU),())) Q) :
  ∀(c i:Nat) (met:List Bool) (todo:List Nat),ps.length - i < c→i≤todo.length→met.length=ps.length→todo.length=met.count true→(∀x∈todo,x < ps.length)→
   Wp (CP (T q) q c role (nm,rs,(pb,ps.map cP),()) (met.map gn) (todo.map aU) (i:Int)) (J df K Q)
 | 0,i,met,todo,hc,_,_,_,_=>by omega
 | c+1,i,met,todo,hc,hi,h1,h2,h3=>by
  have aS:met.count true≤met.length:=HA;have cX:=hP.1;refine aC al3 (aj (fun g1=>?_) (fun g1=>?_))
  ·have af:i < todo.length:=bN g1;have hx:=h3 _ (bM af);refine oe gQ rfl (gE af) ?_;refine aM Dl rfl (gE hx) ?_;have hp:=(hP.2 _ (bM hx)).1;exact TF q hq hP role _ c i (bM hx) (fun met todo g1 g2 g3 g4=>adr q hq hP role nm rs pb h c (i+1) met todo (by omega) (by omega) g1 g2 g3) q 0 met todo (by omega) (by omega) h1 h2 h3 af
  ·have:=TD q met (by omega) (by rw [h1];exact h) q 0 (by omega) (by omega) (by omega);exact this
theorem adt (q:Nat) (hq:100≤q) {ps:List PT} (hP:xT ps) (role:BB) (nm:BB) (rs:Bool×RR) (pb fb:Bool) (fr:List Nat) (hf:fr.length≤50) {K:df.T→OR} (h:∀b (l:List Nat),(∀x∈l,x < ps.length)→l.length≤ps.length→Wp (K ((b,l.map aU),())) Q) :
  ∀(c i:Nat) (met:List Bool) (todo:List Nat),fr.length - i < c→i≤fr.length→met.length=ps.length→todo.length=met.count true→(∀x∈todo,x < ps.length)→
   Wp (Rx (T q) q c role fb (fr.map aU) (nm,rs,(pb,ps.map cP),()) (met.map gn) (todo.map aU) (i:Int)) (J df K Q)
 | 0,i,met,todo,hc,_,_,_,_=>by omega
 | c+1,i,met,todo,hc,hi,h1,h2,h3=>by
  have aS:met.count true≤met.length:=HA;have cX:=hP.1;obtain ⟨r,hr⟩:=bm 1 q;refine aC al8 (aj (fun g1=>?_) (fun g1=>?_))
  ·have af:i < fr.length:=bN g1;have hw:=wI i;have hg:fr[i]? = some fr[i]:=gE af;have e1:sO (T q) q c q=sO (T q) q c (r+1):=by rw [←hr]
   have eL:∀(met:List Bool) (todo:List Nat),met.length=ps.length→todo.length=met.count true→(∀x∈todo,x < ps.length)→Wp (sO (T q) q c q role fb (fr.map aU) (nm,rs,(pb,ps.map cP),()) (met.map gn) (todo.map aU) (i:Int)) (J df K Q):=by
    intro met todo k1 k2 k3;rw [e1];refine aC aan ?_;rw [hw];exact adt q hq hP role nm rs pb fb fr hf h c (i+1) met todo (by omega) (by omega) k1 k2 k3
   refine aM gQ rfl hg (aj (fun g2=>?_) (fun g2=>?_))
   ·refine aM gQ rfl hg (aj (fun g3=>?_) (fun g3=>?_))
    ·have jr:fr[i] < met.length:=bN g3;refine aM gQ rfl hg ?_;refine oe Dk rfl (gE jr) (aj (fun g4=>?_) (fun g4=>?_))
     ·have xj:met[fr[i]]? = some false:=by
       rw [gE jr];have:met[fr[i]]=false:=by simpa using g4
       rw [this]
      refine aM gQ rfl hg ?_;refine hC rfl (aF (aY (by simpa using jr)) (fq (b:=gn false) (by rw [db,bS,xj];rfl) (aF rfl (iN (v:=(false,())) rfl ?_))));refine aM gQ rfl hg (aF (gX (by simp;omega) (by omega)) ?_);rw [MA jr,du];have eF:=count_set met _ xj;have:=eL (met.set fr[i] true) (todo++[fr[i]]) (by simpa using h1) (by rw [eF];simp;omega) (by intro x hx;rw [dC] at hx;rcases hx with hx | hx;exact h3 x hx;simp at hx;omega);rw [eB] at this;exact this
     ·exact eL met todo h1 h2 h3
    ·exact eL met todo h1 h2 h3
   ·exact eL met todo h1 h2 h3
  ·exact adr q hq hP role nm rs pb h q 0 met todo (by omega) (by omega) h1 h2 h3
theorem ads (q:Nat) (hq:100≤q) {ps:List PT} (hP:xT ps) (role:BB) (nm:BB) (rs:Bool×RR) (pb fb:Bool) (fr:List Nat) (hf:fr.length≤50) (met:List Bool) (h1:met.length=ps.length) (h2:met.count true=0) {K:df.T→OR} (h:∀b (l:List Nat),(∀x∈l,x < ps.length)→l.length≤ps.length→Wp (K ((b,l.map aU),())) Q) :
  ∀(c i:Nat),c≤q→fr.length - i < c→i≤fr.length→
   Wp (KN (T q) q c role fb (fr.map aU) (nm,rs,(pb,ps.map cP),()) (met.map gn) true [] (i:Int)) (J df K Q)
 | 0,i,_,hc,_=>by omega
 | c+1,i,E0,hc,hi=>by
  have cX:=hP.1;obtain ⟨r,hr⟩:=bm 1 q;refine aC al7 (aj (fun g1=>?_) (fun g1=>?_))
  ·have af:i < fr.length:=bN g1;have hw:=wI i;have hg:fr[i]? = some fr[i]:=gE af;have e1:sO (T q) q c q=sO (T q) q c (r+1):=by rw [←hr]
   have e2:z7 (T q) q c q=z7 (T q) q c (r+1):=by rw [←hr]
   have eL:Wp (z7 (T q) q c q role fb (fr.map aU) (nm,rs,(pb,ps.map cP),()) (met.map gn) true [] (i:Int)) (J df K Q):=by
    rw [e2];refine aC al9 ?_;rw [hw];exact ads q hq hP role nm rs pb fb fr hf met h1 h2 h c (i+1) (by omega) (by omega) (by omega)
   refine aM gQ rfl hg (aj (fun g2=>?_) (fun g2=>eL));refine aM gQ rfl hg (aj (fun g3=>?_) (fun g3=>eL));have jr:fr[i] < met.length:=bN g3;refine aM gQ rfl hg ?_;refine oe Dk rfl (gE jr) (aj (fun g4=>?_) (fun g4=>eL));have xj:met[fr[i]]? = some false:=by
    rw [gE jr];have:met[fr[i]]=false:=by simpa using g4
    rw [this]
   refine aM gQ rfl hg ?_;refine hC rfl (aF (aY (by simpa using jr)) (fq (b:=gn false) (by rw [db,bS,xj];rfl) (aF rfl (iN (v:=(false,())) rfl ?_))));refine aM gQ rfl hg (aF rfl ?_);rw [MA jr,e1];refine aC aan ?_;rw [hw];have eF:=count_set met _ xj;exact adt q hq hP role nm rs pb fb fr hf h c (i+1) (met.set fr[i] true) [fr[i]] (by omega) (by omega) (by simpa using h1) (by rw [eF,h2];simp) (by intro x hx;simp at hx;omega)
  ·have e3:KL (T q) q q=KL (T q) q (r+1):=by rw [←hr]
   rw [e3];refine aC al2 (dJ rfl ?_);exact TD q met (by omega) (by rw [h1];exact h) q 0 (by omega) (by omega) (by omega)
theorem aeo (hm:110≤m) {ps:List PT} (hP:xT ps) {nm role:BB} {b1 b2 b3:Bool} {rs:RR} {fr:List Nat} (hf:fr.length≤50) {K:df.T→OR} (h:∀b (l:List Nat),(∀x∈l,x < ps.length)→l.length≤ps.length→Wp (K ((b,l.map aU),())) Q) :
  Wp (N9 (T m) nm b1 rs b2 (ps.map cP) role b3 (fr.map aU) K) Q:=by
 obtain ⟨m,rfl⟩:=cE hm;have cX:=hP.1;refine bH ag4 (aF ?_ ?_)
 ·simp;omega
 ·have e1:List.replicate (ps.map cP).length [D.bool false]=(List.replicate ps.length false).map gn:=by simp [gn]
  rw [e1];exact ads m (by omega) hP role nm (b1,rs) b2 b3 fr hf _ (by simp) (by simp [List.count_replicate]) h m 0 (by omega) (by omega) (by omega)
end
end
end Go.Proofs.YtfmpdgeiodnnfaaGreatDoor
