/- A part of the proof. -/
import Derived.Test.YtfmpdgeiodnnfaaGreatDoorQ1
import Derived.Test.YtfmpdgeiodnnfaaGreatDoorQ5
import Derived.Test.YtfmpdgeiodnnfaaGreatDoorQ6
import Derived.Test.YtfmpdgeiodnnfaaGreatDoorQ7
import Derived.Test.YtfmpdgeiodnnfaaGreatDoorQ8
import Derived.KernelRfl
import Derived.Test.YtfmpdgeiodnnfaaGreatDoorQ3
set_option maxRecDepth 100000
set_option maxHeartbeats 1000000
set_option linter.all false
namespace Go.ax
section
theorem pL (n:Nat):ae n=(n:Int):=rfl
theorem afg (n:Nat):cm (n:Int)=some n:=by simp [cm]
theorem Ib {x:Int} (h:0≤x):cm x=some x.toNat:=by simp [cm,h]
theorem wrap_i64 {x:Int} (h : -9223372036854775808≤x) (h':x≤9223372036854775807):IntKind.wrap .i64 x=x:=by
 simp [IntKind.wrap,IntKind.signed,IntKind.bits];omega
section
variable (T:Nat→Option lp) (pO:bX)
def Vs (f:Nat) (vs:List V) (bs:List (List C)) (r:V×List (List C)):Prop:=∃N,∀n,N≤n→nN T pO n f vs bs=some r
theorem Vs.of {T:Nat→Option lp} {pO:bX} {f:Nat} {k:u4} {an:iQ} {vs:List V} {bs:List (List C)} {r:V×List (List C)} (hT:T f=some k.fn)
  (h:∃N,∀n,N≤n→EF an (nN T pO n) n k vs bs=some r):Vs T pO f vs bs r:=by
 obtain ⟨N,h⟩:=h;refine ⟨N+1,fun n hn=>?_⟩;cases n with
 | zero=>omega
 | succ n=>
  show (match T f with | some fn=>vh (nN T pO n) n fn vs bs | none=>pO f vs bs)=some r;rw [hT];exact X3 (h n (by omega))
end
end
end Go.ax
namespace Go.Proofs.YtfmpdgeiodnnfaaGreatDoor.PT
section
open Go Go.ax
abbrev BB:=List UInt8
abbrev RR:=List (List D)
inductive TT where
 | lf (k:Int) (nm:BB) (n:Int) (tx:BB)
 | un (k:Int) (a:TT)
 | bi (k:Int) (a b:TT)
def row (k:Int) (nm:BB) (n:Int) (tx:BB) (x y:Int):List D:=[.int .i64 k,.str nm,.int .i64 n,.str tx,.int .i64 x,.int .i64 y]
def TT.size:TT→Nat
 | .lf .. => 1
 | .un _ a=>a.size+1
 | .bi _ a b=>a.size+b.size+1
def TT.deep:TT→Nat
 | .lf .. => 1
 | .un _ a=>a.deep+1
 | .bi _ a b=>max a.deep b.deep+1
def TT.rows:TT→Nat→RR
 | .lf k nm n tx,_=>[row k nm n tx (-1) (-1)]
 | .un k a,b=>a.rows b++[row k [] 0 [] ((b+a.size:Nat) - 1) (-1)]
 | .bi k a c,b=>a.rows b++c.rows (b+a.size)++[row k [] 0 [] ((b+a.size:Nat) - 1) ((b+a.size+c.size:Nat) - 1)]
def TT.at_ (l:RR):TT→Int→Prop
 | .lf k nm n tx,i=>∃j:Nat,i=j∧l[j]? = some (row k nm n tx (-1) (-1))
 | .un k a,i=>∃(j:Nat) (x:Int),i=j∧l[j]? = some (row k [] 0 [] x (-1))∧a.at_ l x
 | .bi k a c,i=>∃(j:Nat) (x y:Int),i=j∧l[j]? = some (row k [] 0 [] x y)∧a.at_ l x∧c.at_ l y
def rM (k:Int):BB:=
 if k=6 then [43] else if k=7 then [45] else if k=8 then [42] else if k=9 then [47] else if k=10 then [109,111,100] else if k=11 then [61,61] else if k=12 then [60]
 else if k=13 then [97,110,100] else if k=14 then [111,114] else []
def tW (k:Int):BB:=if k=16 then [108,101,110] else if k=17 then [97,116] else if k=18 then [112,117,115,104] else [106,111,105,110]
def xM (k:Int):Bool:=decide (6≤k)&&decide (k≤14)
end
end Go.Proofs.YtfmpdgeiodnnfaaGreatDoor.PT
namespace Go.Proofs.YtfmpdgeiodnnfaaGreatDoor
section
open Go Go.ax
section
variable {R:Type}
theorem EB (ds:List DS) (p:au ds):sn [ds] [bx ds p]=some (p,()):=by
 have h:=aec ds p;unfold Ul at h;simp only [sn,h]
theorem pU {vs:VS} {ds:List DS} {o:OR} {x:V} {v:vs.T} {p:au ds} {K:(RS.val vs [ds]).T→Option R} {z:Option R} (h:o=some (x,[bx ds p])) (hd:oA vs x=some v) (h2:K (v,p,())=z):aG (.val vs [ds]) o K=z:=by
 subst h;simp only [aG,gW,hd,EB];exact h2
theorem DN {vs:VS} {o:OR} {x:V} {v:vs.T} {K:(RS.val vs []).T→Option R} {z:Option R} (h:o=some (x,[])) (hd:oA vs x=some v) (h2:K (v,())=z):aG (.val vs []) o K=z:=by
 subst h;simp only [aG,gW,hd,sn];exact h2
theorem aqh {vs:List VS} {ds:List DS} {o:OR} {x:List V} {v:yX vs} {p:au ds} {K:(RS.aq vs [ds]).T→Option R} {z:Option R} (h:o=some (.aq x,[bx ds p])) (hd:zi vs x=some v) (h2:K (v,p,())=z):aG (.aq vs [ds]) o K=z:=by
 subst h;simp only [aG,gW,hd,EB];exact h2
theorem og {o:OR} {b:Bool} {K:(RS.val (.one .bool) []).T→Option R} {z:Option R} (h:o=some (.one (bC b),[])) (h2:K (b,())=z):aG (.val (.one .bool) []) o K=z:=DN h rfl h2
theorem aqd {o:OR} {b:Int} {K:(RS.val (.one (.int .i64)) []).T→Option R} {z:Option R} (h:o=some (.one (iC b),[])) (h2:K (b,())=z):aG (.val (.one (.int .i64)) []) o K=z:=DN h rfl h2
theorem tu {o:OR} {b:BB} {K:(RS.val (.one .str) []).T→Option R} {z:Option R} (h:o=some (.one (sC b),[])) (h2:K (b,())=z):aG (.val (.one .str) []) o K=z:=DN h rfl h2
theorem yF {k:Nat} {o:OR} {b:Bool} {l:RR} {K:(RS.val (.one (.im k)) []).T→Option R} {z:Option R} (h:o=some (.one (lC (.im b) k l),[])) (h2:K ((b,l),())=z):aG (.val (.one (.im k)) []) o K=z:=
 DN h (by simp [oA,tX,kq]) h2
theorem jC {ds:List DS} {o:OR} {b:Int} {p:au ds} {K:(RS.val (.one (.int .i64)) [ds]).T→Option R} {z:Option R} (h:o=some (.one (iC b),[bx ds p])) (h2:K (b,p,())=z):aG (.val (.one (.int .i64)) [ds]) o K=z:=pU h rfl h2
theorem aqf {ds:List DS} {o:OR} {b:BB} {p:au ds} {K:(RS.val (.one .str) [ds]).T→Option R} {z:Option R} (h:o=some (.one (sC b),[bx ds p])) (h2:K (b,p,())=z):aG (.val (.one .str) [ds]) o K=z:=pU h rfl h2
theorem MS {ds:List DS} {k:Nat} {o:OR} {b:Bool} {l:RR} {p:au ds} {K:(RS.val (.one (.im k)) [ds]).T→Option R} {z:Option R} (h:o=some (.one (lC (.im b) k l),[bx ds p])) (h2:K ((b,l),p,())=z):aG (.val (.one (.im k)) [ds]) o K=z:=
 pU h (by simp [oA,tX,kq]) h2
theorem Ui {ds:List DS} {o:OR} {p:au ds} {K:(RS.aq [] [ds]).T→Option R} {z:Option R} (h:o=some (.aq [],[bx ds p])) (h2:K ((),p,())=z):aG (.aq [] [ds]) o K=z:=aqh h rfl h2
theorem dC {b:Bool} {x z:Option R} (h:b=true) (h2:x=z):gd b x=z:=by subst h;exact h2
theorem dx {b:Bool} {x y z:R} (h:b=true) (h2:x=z):(bif b then x else y)=z:=by subst h;exact h2
theorem bO {b:Bool} {x y z:R} (h:b=false) (h2:y=z):(bif b then x else y)=z:=by subst h;exact h2
theorem qo {β:Type} {o:Option β} {b:β} {K:β→Option R} {z:Option R} (h:o=some b) (h2:K b=z):aH o K=z:=by subst h;exact h2
theorem Ia (n:Nat):cm (n:Int)=some n:=by unfold cm;simp
theorem Ib {z:Int} {n:Nat} (h:z=(n:Int)):cm z=some n:=by subst h;exact Ia n
theorem bI (n:Nat):ae n=(n:Int):=rfl
theorem rR {b:Bool} {f:Tag→Option R} {z:Option R} (h:f (.im b)=z):zZ (.im b) f=z:=h
theorem lh {f:Tag→Option R} {z:Option R} (h:f .own=z):zZ .own f=z:=h
theorem jr {n:Nat} {x z:Option R} (h:n≤100000000000000) (h2:x=z):aN n x=z:=by
 unfold aN;rw [show decide (n≤9223372036854775807)=true from aX (by omega)];exact h2
end
theorem yn {ds:List DS} {c n:Nat} {L:RR} {i:Nat} {r:List D} {v:au ds} {K:au ds→OR} {z:OR} (h:L[i]? = some r) (hl:c+n≤r.length) (hd:eb ds (List.take n (List.drop c r))=some v) (h2:K v=z):rA ds c n L i K=z:=by
 unfold rA;refine qo h ?_;rw [show decide (n≤(List.drop c r).length)=true from aX (by simp;omega)];simp only [HO,cw,hd];exact h2
theorem gZ {ds:List DS} {c n:Nat} {L:RR} {x:Int} {i:Nat} {r:List D} {v:au ds} {K:au ds→OR} {z:OR} (hx:x=(i:Int)) (h:L[i]? = some r) (hl:c+n≤r.length) (hd:eb ds (List.take n (List.drop c r))=some v) (h2:K v=z):iR ds c n L x K=z:=by
 unfold iR;exact qo (Ib hx) (yn h hl hd h2)
theorem sO {ds:List DS} {c n:Nat} {L:RR} {x:Int} {i:Nat} {r:List D} {v:au ds} {K:au ds→OR} {z:OR} (hx:x=(i:Int)) (h:L[i]? = some r) (hl:c+n≤r.length) (hd:eb ds (List.take n (List.drop c r))=some v) (h2:K v=z):iV ds c n L x K=z:=by
 unfold iV;refine qo (Ib hx) (dC (aX (cA.1 h).1) (qo (b:=r) (by rw [de];exact h) (dC (aX hl) ?_)));simp only [cw,hd];exact h2
theorem DT {z:Int} (h0 : -9223372036854775808≤z) (h1:z≤9223372036854775807):ao z=z:=wrap_i64 h0 h1
theorem bl (k n:Nat) (h:k≤n:=by omega):∃r,n=r+k:=⟨n - k,by omega⟩
theorem cG {m k:Nat} (h:k≤m) (h0:0 < k:=by omega):∃j,m=j+1:=⟨m - 1,by omega⟩
theorem bN {A B:Type} {f:A→B} {l:List A} {i:Nat} (h:decide ((i:Int) < ae (l.map f).length)=true):i < l.length:=by
 have g:=tN h;rw [bI,cf] at g;omega
theorem gE {A:Type} {l:List A} {i:Nat} (h:i < l.length):l[i]? = some l[i]:=ke h
theorem gF {z:Int} {n:Nat} (h:z=n:=by omega) (hn:n≤1000000000000000000:=by omega):ao z=(n:Int):=by subst h;exact DT (by omega) (by omega)
theorem wI (i:Nat) (h:i+1≤1000000000000000000:=by omega):ao ((i:Int)+1)=((i+1:Nat):Int):=gF rfl h
theorem dj (l:RR):whole l=l:=by unfold whole;simp
section
variable {R:Type}
theorem AE (b:Bool) (K:Bool×Unit→Option R):aG (.val (.one .bool) []) (some (.one (bC b),[])) K=K (b,()):=rfl
theorem wB (b:BB) (K:BB×Unit→Option R):aG (.val (.one .str) []) (some (.one (sC b),[])) K=K (b,()):=rfl
theorem oE {b:Bool} {x:Option R} (h:b=true):gd b x=x:=by subst h;rfl
theorem ey {b:Bool} {x y:R} (h:b=true):(bif b then x else y)=x:=by subst h;rfl
theorem dZ {b:Bool} {x y:R} (h:b=false):(bif b then x else y)=y:=by subst h;rfl
theorem Mf {z:Int} {n:Nat} (K:Nat→Option R) (h:z=(n:Int)):aH (cm z) K=K n:=by subst h;rw [afg];rfl
theorem qO {β:Type} {o:Option β} {b:β} (K:β→Option R) (h:o=some b):aH o K=K b:=by subst h;rfl
end
structure TK where
 k:Int
 s:BB
 a:Int
end
section
open Go Go.ax PT
def FV (s:BB):Bool:=(s==[97,110,100])||((s==[97,115])||((s==[97,116])||((s==[98,111,111,108])||((s==[99,97,108,108])||((s==[99,104,97,110])||((s==[100,114,111,112])||((s==[101,108,115,101])||((s==[101,109,112,116,121])||((s==[101,110,100])||((s==[102,97,105,108])||((s==[102,97,108,115,101])||((s==[102,114,111,109])||((s==[104,101,97,114])||((s==[105,102])||((s==[105,110,116])||((s==[106,111,105,110])||((s==[108,101,110])||((s==[108,101,116])||((s==[108,105,115,116])||((s==[108,111,99,97,108])||((s==[108,111,115,116])||((s==[109,111,100])||((s==[110,111,116])||((s==[111,112,101,110])||((s==[111,114])||((s==[112,114,105,110,116])||((s==[112,114,111,99])||((s==[112,114,111,116,111,99,111,108])||((s==[112,117,115,104])||((s==[114,111,108,101,115])||((s==[115,97,121])||((s==[115,112,97,119,110])||((s==[115,116,111,112])||((s==[116,101,120,116])||((s==[116,111])||((s==[116,114,117,101])||((s==[117,110,105,116])||((s==[119,105,116,104])||false))))))))))))))))))))))))))))))))))))))
theorem afj (b c:Bool):(bif b then rT else some (.one (.d (.bool c)),[]))=(some (.one (.d (.bool (b||c))),[]):OR):=by cases b<;>rfl
theorem aku (n:Nat) (hn:2≤n) (s:BB):T n 116 [.one (sC s)] []=some (.one (bC (FV s)),[]):=by
 obtain ⟨m,rfl⟩:=tL hn;refine af' _ ?_;rw [akD];rw [show rF=(some (.one (.d (.bool false)),[]):OR) from rfl];simp only [afj];rfl
def isLet (c:UInt8):Bool:=decide (97≤c.toNat)&&decide (c.toNat≤122)
def rn (c:UInt8):Bool:=decide (48≤c.toNat)&&decide (c.toNat≤57)
theorem acT (x:Nat) (lo hi:Int):(bif decide (ae x≥lo) then (some (.one (bC (decide (ae x≤hi))),[]):OR) else rF)=some (.one (bC (decide (lo≤ae x)&&decide (ae x≤hi))),[]):=by
 by_cases h:lo≤ae x
 ·rw [ey (by simpa using h),aX h];rfl
 ·rw [dZ (by simpa using h),bR h];rfl
theorem anO (c:UInt8):(decide ((97:Int)≤ae c.toNat)&&decide (ae c.toNat≤(122:Int)))=isLet c:=by
 unfold isLet;rw [pL];congr 1<;>exact Vn.2 (by omega)
theorem af0 (c:UInt8):(decide ((48:Int)≤ae c.toNat)&&decide (ae c.toNat≤(57:Int)))=rn c:=by
 unfold rn;rw [pL];congr 1<;>exact Vn.2 (by omega)
theorem aby (n:Nat) (hn:1≤n) (c:UInt8):T n 115 [.one (.d (.int .u8 (ae c.toNat)))] []=some (.one (bC (isLet c)),[]):=by
 obtain ⟨m,rfl⟩:=tL hn;refine age _ ?_;rw [←anO];exact acT _ _ _
theorem an5 (n:Nat) (hn:1≤n) (c:UInt8):T n 117 [.one (.d (.int .u8 (ae c.toNat)))] []=some (.one (bC (rn c)),[]):=by
 obtain ⟨m,rfl⟩:=tL hn;refine agd _ ?_;rw [←af0];exact acT _ _ _
end
section
open Go Go.ax PT
def qz (c:UInt8):Bool:=isLet c||rn c
def gK:BB→Bool
 | []=>false
 | c::r=>decide (r.length+1≤12)&&isLet c && !(FV (c::r))&&r.all qz
theorem M0 (i:Nat) (h:i < 1000000):ao ((i:Int)+1)=((i+1:Nat):Int):=by
 show IntKind.wrap .i64 _=_;rw [wrap_i64 (by omega) (by omega)];simp
theorem Gy (n:Nat) (hn:1≤n) (q:Nat) (s:BB) (hs:s.length < 100000):∀(k i:Nat),s.length - i < k→FY (T n) q k s (i:Int)=some (.one (bC ((s.drop i).all qz)),[])
 | 0,i,hk=>by omega
 | k+1,i,hk=>by
  rw [akE];by_cases h:i < s.length
  ·have hc:s[i]? = some s[i]:=gE h;have hd:s.drop i=s[i]::s.drop (i+1):=tG h;have ih:=Gy n hn q s hs k (i+1) (by omega);rw [hd,List.all_cons];generalize s[i]=c at hc hd;rw [ey (by simp [pL];omega),Mf _ rfl,qO _ hc,aby n hn,AE];dsimp only;cases hl:isLet c with
   | true=>
    rw [dZ (show (!true)=false from rfl),M0 i (by omega),ih];simp [qz,hl]
   | false=>
    rw [ey (show (!false)=true from rfl),Mf _ rfl,qO _ hc,an5 n hn,AE];dsimp only;cases hg:rn c with
    | true=>
     rw [dZ (show (!true)=false from rfl),M0 i (by omega),ih];simp [qz,hl,hg]
    | false=>
     rw [ey (show (!false)=true from rfl)];simp [qz,hl,hg]
  ·rw [dZ (by simp [pL];omega),DX (by omega)];rfl
theorem vX (n:Nat) (hn:20≤n) (s:BB):T n 62 [.one (sC s)] []=some (.one (bC (gK s)),[]):=by
 obtain ⟨m,rfl⟩:=bl 20 n;refine aga _ ?_;cases s with
 | nil=>rfl
 | cons c r=>
  have h1:ae (c::r).length=((r.length+1:Nat):Int):=by simp [pL]
  rw [h1,dZ (by simp;omega)];by_cases h:r.length+1≤12
  ·rw [dZ (by simp;omega),qO (o:=(c::r)[Int.toNat 0]?) (b:=c) _ rfl,aby (m+19) (by omega),AE];dsimp only;rw [show gK (c::r)=(decide (r.length+1≤12)&&isLet c && !(FV (c::r))&&r.all qz) from rfl,aX h];cases hl:isLet c with
   | false=>rfl
   | true=>
    rw [dZ (show (!true)=false from rfl),c116,aku (m+19) (by omega),AE];dsimp only;cases hk:FV (c::r) with
    | true=>rfl
    | false=>
     rw [dZ rfl,akF];rw [show (1:Int)=((1:Nat):Int) from rfl,Gy (m+19) (by omega) _ (c::r) (by simp;omega) _ _ (by simp;omega)];rfl
  ·rw [ey (by simp;omega)];rw [show gK (c::r)=(decide (r.length+1≤12)&&isLet c && !(FV (c::r))&&r.all qz) from rfl,bR h];rfl
end
section
open Go Go.ax PT
theorem VC {n f:Nat} {vs:List V} {bs:List (List C)} {r:V×List (List C)} (ht:pT f=none) (h:Aw f vs bs=some r):T (n+1) f vs bs=some r:=by
 unfold T;simp only [nN,ht];exact h
def Lv (k:Int) (nm:BB) (n:Int) (tx:BB):Prop:=
 (k=0∧gK nm=true∧n=0∧tx=[])∨(k=1∧nm=[]∧tx=[]∧-9223372036854775808≤n∧n≤9223372036854775807)∨(k=2∧nm=[]∧tx=[]∧(n=0∨n=1))∨
  (k=3∧nm=[]∧n=0∧tx.length≤24)∨(k=4∧nm=[]∧n=0∧tx=[])∨(k=5∧nm=[]∧n=0∧tx=[])
def wi:TT→Prop
 | .lf k nm n tx=>Lv k nm n tx
 | .un k a=>(k=15∨k=16)∧wi a
 | .bi k a b=>(xM k=true∨k=17∨k=18∨k=19)∧wi a∧wi b
def yH (acc:Nat) (l:BB):Nat:=l.foldl (fun a c=>a * 10+(c.toNat - 48)) acc
theorem aeg:∀(l:BB) (acc:Nat),acc≤yH acc l
 | [],acc=>bV _
 | c::r,acc=>by
  have:=aeg r (acc * 10+(c.toNat - 48));show acc≤yH (acc * 10+(c.toNat - 48)) r;omega
theorem abX:∀(l:BB) (acc:Nat),(∀c∈l,rn c=true)→yH acc l≤9223372036854775808→Lib.parseUintM 18446744073709551615 acc l = .ok (yH acc l)
 | [],acc,_,_=>rfl
 | c::r,acc,hd,hv=>by
  have h1:=hd c (by simp);unfold rn at h1;simp only [bK,fB] at h1;have h2:yH acc (c::r)=yH (acc * 10+(c.toNat - 48)) r:=rfl;have h3:=aeg r (acc * 10+(c.toNat - 48));rw [h2] at hv ⊢;simp only [Lib.parseUintM];rw [aJ h1,aB (by omega),aB (by omega)];exact abX r _ (fun x hx=>hd x (by simp [hx])) hv
theorem MU (d:Nat) (h:d < 10):(UInt8.ofNat (48+d)).toNat=48+d:=by
 show (48+d) % 256=48+d;omega
theorem Ri (d:Nat) (h:d < 10):rn (UInt8.ofNat (48+d))=true:=by
 unfold rn;rw [MU d h];simp;omega
theorem zj:∀(f u:Nat),u < 10 ^ (f+1)→(∀c∈oB f u,rn c=true)∧yH 0 (oB f u)=u∧oB f u≠[]∧(oB f u).length≤f+1
 | 0,u,h=>by
  have h1:u < 10:=by simpa using h
  refine ⟨fun c hc=>?_,?_,by simp [oB],by simp [oB]⟩
  ·simp [oB] at hc;subst hc;have:=Ri u h1;simpa using this
  ·show 0 * 10+((UInt8.ofNat (48+u)).toNat - 48)=u;rw [MU u h1];omega
 | f+1,u,h=>by
  simp only [oB];by_cases h1:u < 10
  ·rw [aJ h1];refine ⟨fun c hc=>?_,?_,by simp,by simp⟩
   ·simp at hc;subst hc;have:=Ri u h1;simpa using this
   ·show 0 * 10+((UInt8.ofNat (48+u)).toNat - 48)=u;rw [MU u h1];omega
  ·rw [aB h1];have ih:=zj f (u / 10) (by rw [Vi] at h;omega);refine ⟨fun c hc=>?_,?_,by simp,by simp;omega⟩
   ·rw [dA] at hc;rcases hc with hc | hc
    ·exact ih.1 c hc
    ·rw [tJ] at hc;subst hc;exact Ri (u % 10) (by omega)
   ·unfold yH at ih ⊢;rw [List.foldl_append,ih.2.1];show u / 10 * 10+((UInt8.ofNat (48+u % 10)).toNat - 48)=u;rw [MU (u % 10) (by omega)];omega
theorem XF (f u:Nat) (h:u < 10 ^ (f+1)) (hu:u≤9223372036854775808):Lib.parseUintB 64 (oB f u) = .ok u:=by
 have h1:=zj f u h;unfold Lib.parseUintB;rw [aB h1.2.2.1,show (2:Nat) ^ 64 - 1=18446744073709551615 by decide,abX _ _ h1.1 (by rw [h1.2.1];exact hu),h1.2.1]
theorem aow {n:Int} (h0 : -9223372036854775808≤n) (h1:n≤9223372036854775807):Lib.parseIntB 64 (pJ n) = .ok n:=by
 unfold pJ;have e:(2:Nat) ^ (64 - 1)=9223372036854775808:=by decide
 have e2:(10:Nat) ^ (19+1)=100000000000000000000:=by decide
 by_cases h:n < 0
 ·rw [aJ h,Lib.parseIntB_minus,XF 19 n.natAbs (by rw [e2];omega) (by omega)];simp only [Lib.signedC,e];rw [aB (by omega)];congr 1;omega
 ·rw [aB h];have hd:=zj 19 n.toNat (by rw [e2];omega);have hn:=XF 19 n.toNat (by rw [e2];omega) (by omega);cases hc:oB 19 n.toNat with
  | nil=>exact absurd hc hd.2.2.1
  | cons c r=>
   rw [hc] at hd hn;have h3:=hd.1 c (by simp);unfold rn at h3;simp only [bK,fB] at h3;rw [Lib.parseIntB_plain 64 c r (by omega) (by omega),hn];simp only [Lib.signlessC,e];rw [aB (by omega)];congr 1;omega
theorem akp {n:Int} (h0 : -9223372036854775808≤n) (h1:n≤9223372036854775807):(pJ n).length≤21:=by
 have e2:(10:Nat) ^ (19+1)=100000000000000000000:=by decide
 unfold pJ;by_cases h:n < 0
 ·rw [aJ h];have:=(zj 19 n.natAbs (by rw [e2];omega)).2.2.2;simp;omega
 ·rw [aB h];have:=(zj 19 n.toNat (by rw [e2];omega)).2.2.2;omega
end
section
open Go Go.ax PT
def Cc:BB:=[48,49,50,51,52,53,54,55,56,57,97,98,99,100,101,102]
def pF (v:Nat):UInt8:=Cc.getD v 0
def qc (c:UInt8):BB:=if c.toNat=34∨c.toNat=92 then [92,c] else if c.toNat=10 then [92,110] else if c.toNat < 32∨126 < c.toNat then [92,120,pF (c.toNat / 16),pF (c.toNat % 16)] else [c]
def ym (s:BB):BB:=34::(s.flatMap qc++[34])
def gk:TT→BB
 | .lf k nm n tx=>if k=0 then nm else if k=1 then pJ n else if k=2 then (if n=1 then [116,114,117,101] else [102,97,108,115,101])
  else if k=3 then ym tx else if k=4 then [101,109,112,116,121] else [117,110,105,116]
 | .un k a=>if k=15 then [40,110,111,116,32]++gk a++[41] else (tW k++[40])++gk a++[41]
 | .bi k a b=>if xM k=true then [40]++gk a++([32]++rM k++[32])++gk b++[41] else (tW k++[40])++gk a++[44,32]++gk b++[41]
theorem VH {p:Nat→Bool} {N:Nat} (h:(List.range N).all p=true) (n:Nat) (hn:n < N):p n=true:=lM.1 h n (tI.2 hn)
def Y' (n:Nat):Bool:=decide (cm ((ae n).fdiv ((2:Int) ^ min 4 IntKind.u8.bits))=some (n / 16))&&decide (Cc[n / 16]? = some (pF (n / 16))) &&
 decide (Cc[(w8 (ae (BitVec.ofInt IntKind.u8.bits (ae n) &&& BitVec.ofInt IntKind.u8.bits (15:Int)).toNat)).toNat]? = some (pF (n % 16)))
theorem ajy:(List.range 256).all Y'=true:=by kernel_rfl
theorem ajz (c:UInt8):cm ((ae c.toNat).fdiv ((2:Int) ^ min 4 IntKind.u8.bits))=some (c.toNat / 16)∧Cc[c.toNat / 16]? = some (pF (c.toNat / 16))∧
  Cc[(w8 (ae (BitVec.ofInt IntKind.u8.bits (ae c.toNat) &&& BitVec.ofInt IntKind.u8.bits (15:Int)).toNat)).toNat]? = some (pF (c.toNat % 16)):=by
 have h:=VH ajy c.toNat c.toNat_lt;unfold Y' at h;simp only [bK,fB] at h;exact ⟨h.1.1,h.1.2,h.2⟩
theorem Hk (a b:BB):D.dc (a++b)=D.dc a++D.dc b:=by unfold D.dc;exact ev
theorem mO (a:BB):(D.dc a).length=a.length:=by unfold D.dc;exact cf _
theorem ap0 {a:BB} (h:a≠[]):(D.dc a).isEmpty=false:=by cases a with | nil=>exact absurd rfl h | cons=>rfl
theorem DL:∀b:BB,kC (D.dc b)=some b
 | []=>rfl
 | c::r=>by
  show (kC (D.dc r)).map (UInt8.ofNat ((c.toNat:Int).toNat) :: ·)=some (c::r);rw [DL r];show some (UInt8.ofNat c.toNat::r)=some (c::r);rw [UInt8.ofNat_toNat]
theorem qgd (src:RR) (b:BB) (k:Nat) (hb:b≠[]) (hl:b.length+k≤100000000000000) :
  (fS 1 src (D.dc b).isEmpty&&true&&true&&(D.dc b).length==(D.dc b).length&&true&&decide (((D.dc b).length+k) * 1≤140737488355328))=true:=by
 rw [ap0 hb,mO,D2,aX (by omega)];simp [fS]
theorem qg (b:BB) (k:Nat) (hl:b.length+k≤100000000000000):((D.dc b).length==(D.dc b).length&&true&&decide (((D.dc b).length+k) * 1≤140737488355328))=true:=by
 rw [mO,D2,aX (by omega)];rfl
theorem wgd (s b:BB) (hb:b≠[]) (hl:b.length+s.length≤100000000000000) :
  (fS 1 (D.dc s) (D.dc b).isEmpty&&true&&true&&(D.dc b).length==(D.dc b).length&&true&&decide (((D.dc b).length+(D.dc s).length) * 1≤140737488355328))=true:=by
 rw [mO s];exact qgd (D.dc s) b s.length hb hl
theorem GF (c:UInt8) (n:Nat):(ae c.toNat==(n:Int))=decide (c.toNat=n):=by
 rw [pL];by_cases h:c.toNat=n
 ·rw [h];simp
 ·rw [bR h];simp;omega
theorem acA (n q:Nat) (s:BB) (hs:s.length < 100000):∀(k i:Nat) (b:BB),s.length - i < k→b≠[]→b.length+4 * (s.length - i)+1≤100000000000000→
  FX (T n) (q+1) k s (D.dc b) (i:Int)=some (.one (sC (b++(s.drop i).flatMap qc++[34])),[])
 | 0,i,b,hk,_,_=>by omega
 | k+1,i,b,hk,hb,hl=>by
  rw [akB];by_cases h:i < s.length
  ·have hc:s[i]? = some s[i]:=gE h;have hd:s.drop i=s[i]::s.drop (i+1):=tG h;have ih:=fun (x:BB) (hx:x.length≤4)=>acA n q s hs k (i+1) (b++x) (by omega) (by simp [hb]) (by simp;omega)
   rw [hd,DY];generalize s[i]=c at hc hd;have fin:∀(x:BB),x.length≤4→x=qc c→xP (T n) (q+1) k (q+1) s (D.dc b++D.dc x) (i:Int) =
     some (.one (sC (b++(qc c++(s.drop (i+1)).flatMap qc)++[34])),[]):=by
    intro x hx he;rw [akC];rw [M0 i (by omega),←Hk,ih x hx,he];simp
   rw [ey (by simp [pL];omega),Mf _ rfl,qO _ hc];rw [show (ae c.toNat==(34:Int))=decide (c.toNat=34) from GF c 34,show (ae c.toNat==(92:Int))=decide (c.toNat=92) from GF c 92,show (ae c.toNat==(10:Int))=decide (c.toNat=10) from GF c 10];by_cases h1:c.toNat=34
   ·rw [ey (aX h1)];refine (oE (qg b 2 (by omega))).trans ?_;exact fin [92,c] (by simp) (by unfold qc;rw [aJ (.inl h1)])
   ·rw [dZ (bR h1)];by_cases h2:c.toNat=92
    ·rw [ey (aX h2)];refine (oE (qg b 2 (by omega))).trans ?_;exact fin [92,c] (by simp) (by unfold qc;rw [aJ (.inr h2)])
    ·rw [dZ (bR h2)];by_cases h3:c.toNat=10
     ·rw [ey (aX h3)];refine (oE (qg b 2 (by omega))).trans ?_;exact fin [92,110] (by simp) (by unfold qc;rw [aB (by omega),aJ h3])
     ·rw [dZ (bR h3)];obtain ⟨x1,x2,x3⟩:=ajz c;by_cases h4:c.toNat < 32
      ·rw [ey (aX (show ae c.toNat < (32:Int) by rw [pL];omega)),qO _ x1];refine (qO _ x2).trans ?_;refine (qO _ x3).trans ?_;refine (oE (qg b 4 (by omega))).trans ?_;exact fin [92,120,pF (c.toNat / 16),pF (c.toNat % 16)] (by simp) (by unfold qc;rw [aB (by omega),aB h3,aJ (.inl h4)])
      ·rw [dZ (bR (show ¬ ae c.toNat < (32:Int) by rw [pL];omega))];by_cases h5:126 < c.toNat
       ·rw [ey (aX (show ae c.toNat > (126:Int) by rw [pL];omega)),qO _ x1];refine (qO _ x2).trans ?_;refine (qO _ x3).trans ?_;refine (oE (qg b 4 (by omega))).trans ?_;exact fin [92,120,pF (c.toNat / 16),pF (c.toNat % 16)] (by simp) (by unfold qc;rw [aB (by omega),aB h3,aJ (.inr h5)])
       ·rw [dZ (bR (show ¬ ae c.toNat > (126:Int) by rw [pL];omega))];refine (oE (qg b 1 (by omega))).trans ?_;exact fin [c] (by simp) (by unfold qc;rw [aB (by omega),aB h3,aB (by omega)])
  ·rw [dZ (by simp [pL];omega),DX (by omega)];refine (oE (qg b 1 (by omega))).trans ?_;refine (qO (b:=b++[34]) _ ?_).trans ?_
   ·exact (fU kC (Hk b [34]).symm).trans (DL _)
   ·simp
theorem aoX (n:Nat) (hn:2≤n) (s:BB) (hs:s.length+1 < n) (h2:s.length < 10000):T n 161 [.one (sC s)] []=some (.one (sC (ym s)),[]):=by
 obtain ⟨m,rfl⟩:=bl 2 n;refine af8 _ ?_;have:=acA (m+1) m s (by omega) (m+1) 0 [34] (by omega) (by simp) (by simp;omega);exact (show FX (T (m+1)) (m+1) (m+1) s [[D.int .u8 34]] 0=_ from this).trans (by simp [ym])
def MK (b:BB):Tag×RR:=match b with | []=>(.im true,[]) | _=>(.own,D.dc b)
abbrev bB (b:BB):au bm:=((),MK b,())
theorem rJ (z:Int) (p:au bm) {R:Type} (K:(Int×Bool×Unit)×au bm×Unit→Option R):aG TA (some (.aq [.one (iC z),.one .fR],[bx bm p])) K=K ((z,true,()),p,()):=by
 obtain ⟨u,⟨t,r⟩,u2⟩:=p;cases u;cases u2;rfl
theorem rK (p:au bm) {R:Type} (K:Unit×au bm×Unit→Option R):aG j7 (some (.aq [],[bx bm p])) K=K ((),p,()):=by
 obtain ⟨u,⟨t,r⟩,u2⟩:=p;cases u;cases u2;rfl
theorem cc' (n:Nat) (hn:1≤n) (p:au bm):T n 91 [pE] [bx bm p]=some (.aq [],[bx bm p]):=by
 obtain ⟨m,rfl⟩:=tL hn;refine VC rfl ?_;obtain ⟨u,⟨t,r⟩,u2⟩:=p;cases u;cases u2;rfl
theorem r4 (n:Nat) (hn:2≤n) (s b:BB) (hl:b.length+s.length≤100000000000000):T n 35 [pE,.one (sC s)] [bx bm (bB b)]=some (.aq [.one (iC (s.length:Int)),.one .fR],[bx bm (bB (b++s))]):=by
 obtain ⟨m,rfl⟩:=tL hn;refine O4 _ ?_;rw [c91,cc' (m+1) (by omega),rK];cases b with
 | nil=>
  dsimp only [MK,zZ];refine (oE ?_).trans ?_
  ·rw [mO,aX (by simp at hl;omega)];simp [fS]
  ·cases s with
   | nil=>rfl
   | cons c r=>rfl
 | cons c r=>
  dsimp only [MK,zZ];refine (oE ?_).trans ?_
  ·exact wgd s (c::r) (by simp) hl
  ·rw [←Hk];rfl
theorem akm (n:Nat) (hn:1≤n) {z:Int} (h0 : -9223372036854775808≤z) (h1:z≤9223372036854775807):T n 159 [.one (iC z),.one (iC 10)] []=some (.one (sC (pJ z)),[]):=by
 obtain ⟨m,rfl⟩:=tL hn;refine VC rfl ?_;show (if (10:Int)=10∧-9223372036854775808≤z∧z≤9223372036854775807 then some (V.one (.d (.str (pJ z))),([]:List (List C))) else none)=_;rw [aJ ⟨rfl,h0,h1⟩]
theorem afq (n:Nat) (hn:2≤n) (b:Bool):T n 160 [.one (bC b)] []=some (V.one (sC (if b then [116,114,117,101] else [102,97,108,115,101])),[]):=by
 obtain ⟨m,rfl⟩:=tL hn;refine ahH _ (tu (b:=if b then [116,114,117,101] else [102,97,108,115,101]) (ahI _ ?_) rfl);cases b<;>rfl
theorem iE {k c:Int} {R:Type} {x y:R} (h:k≠c):(bif k==c then x else y)=y:=by rw [dZ (by simpa using h)]
theorem anH (n:Nat) (hn:40≤n) {k:Int} {nm:BB} {z:Int} {tx:BB} (h:Lv k nm z tx) (x y:Int):T n 102 [.agg [iC k,sC nm,iC z,sC tx,iC x,iC y]] []=some (.one (sC (gk (.lf k nm z tx))),[]):=by
 obtain ⟨m,rfl⟩:=bl 40 n;refine agm _ ?_;rcases h with ⟨rfl,h,rfl,rfl⟩ | ⟨rfl,rfl,rfl,h,h'⟩ | ⟨rfl,rfl,rfl,h⟩ | ⟨rfl,rfl,rfl,h⟩ | ⟨rfl,rfl,rfl,rfl⟩ | ⟨rfl,rfl,rfl,rfl⟩
 ·rfl
 ·rw [dZ (by decide),ey (by decide),c159,akm (m+39) (by omega) h h',wB];rfl
 ·rw [dZ (by decide),dZ (by decide),ey (by decide),c160,afq (m+39) (by omega),wB];rcases h with rfl | rfl<;>rfl
 ·rw [dZ (by decide),dZ (by decide),dZ (by decide),ey (by decide),WG,aoX (m+39) (by omega) tx (by omega) (by omega),wB];rfl
 ·rfl
 ·rfl
theorem S6 (n:Nat) (hn:1≤n) (k:Int):T n 103 [.one (iC k)] []=some (.one (sC (rM k)),[]):=by
 obtain ⟨m,rfl⟩:=tL hn;refine agq _ ?_;unfold rM;repeat' split
 all_goals (try subst_vars)
 all_goals (first | rfl | (simp only [iE, *,ne_eq,Nq,not_true_eq_false];done) | skip)
 all_goals (repeat (first | rw [iE (by assumption)] | rfl))
theorem ab2 (n:Nat) (hn:1≤n) (k:Int):T n 104 [.one (iC k)] []=some (.one (sC (tW k)),[]):=by
 obtain ⟨m,rfl⟩:=tL hn;refine agl _ ?_;unfold tW;repeat' split
 all_goals (try subst_vars)
 all_goals (first | rfl | skip)
 all_goals (repeat (first | rw [iE (by assumption)] | rfl))
end
section
open Go Go.ax PT
theorem Ps {R:Type} {n:Nat} {x:Option R} (h:n≤9223372036854775807):aN n x=x:=by unfold aN;rw [aX h];rfl
theorem TT.yZ {l:RR}:∀{t:TT} {i:Int},t.at_ l i→∃j:Nat,i=j
 | .lf ..,_,⟨j,h,_⟩=>⟨j,h⟩
 | .un ..,_,⟨j,_,h,_⟩=>⟨j,h⟩
 | .bi ..,_,⟨j,_,_,h,_⟩=>⟨j,h⟩
theorem adp (k:Int):(rM k).length≤3:=by
 unfold rM;repeat' split
 all_goals decide
theorem Iy (k:Int):(tW k).length≤4:=by
 unfold tW;repeat' split
 all_goals decide
theorem apC {k:Int} (h:xM k=true):(rM k==[])=false:=by
 unfold xM at h;simp only [bK,fB] at h;have:k=6∨k=7∨k=8∨k=9∨k=10∨k=11∨k=12∨k=13∨k=14:=by omega
 rcases this with rfl | rfl | rfl | rfl | rfl | rfl | rfl | rfl | rfl<;>rfl
section
variable (x0:Bool) (l:RR)
theorem Me:∀(t:TT),wi t→∀(i:Int),t.at_ l i→∀n,60 * t.size≤n→∀b:BB,b.length+(gk t).length≤100000000000000→
  T n 50 [pE,.one (lC (.im x0) 6 l),.one (iC i)] [bx bm (bB b)]=some (.aq [],[bx bm (bB (b++gk t))])
 | .lf k nm z tx,h,i,⟨j,hi,hr⟩,n,hn,b,hb=>by
  have hn:60≤n:=hn;obtain ⟨m,rfl⟩:=bl 60 n;refine OW _ ?_;refine gZ (v:=(k,nm,z,tx,-1,-1,())) hi hr (bV 6) rfl ?_;dsimp only;rw [ey (aX (show (-1:Int) < 0 by omega)),Ww,anH (m+59) (by omega) h,wB];dsimp only;rw [du,r4 (m+59) (by omega) _ _ hb,rJ];rfl
 | .un k a,h,i,⟨j,x,hi,hr,ha⟩,n,hn,b,hb=>by
  have ih:=Me a h.2 x ha;have hn:60 * (a.size+1)≤n:=hn;obtain ⟨jx,hx⟩:=(TT.yZ ha)
  have lU:¬ x < 0:=by omega
  obtain ⟨m,rfl⟩:=bl 60 n;refine OW _ ?_;refine gZ (v:=(k,[],0,[],x,-1,())) hi hr (bV 6) rfl ?_;dsimp only;rw [dZ (bR lU)];rcases h.1 with rfl | rfl
  ·have e:gk (.un 15 a)=[40,110,111,116,32]++gk a++[41]:=rfl;rw [e] at hb ⊢;simp only [dL,fX,jE] at hb;rw [ey (by decide),du,r4 (m+59) (by omega) _ _ (by simp;omega),rJ];dsimp only;rw [ey rfl,ki,ih (m+59) (by omega) _ (by simp;omega),rK];dsimp only;rw [du,r4 (m+59) (by omega) _ _ (by simp;omega),rJ];dsimp only;rw [ey rfl];simp only [ej]
  ·have e:gk (.un 16 a)=[108,101,110,40]++gk a++[41]:=rfl;rw [e] at hb ⊢;simp only [dL,fX,jE] at hb;rw [dZ (by decide),Bl,S6 (m+59) (by omega),wB];dsimp only;rw [dZ (by decide),N4,ab2 (m+59) (by omega),wB];dsimp only;refine (Ps (by have:=Iy 16;omega)).trans ?_;rw [show tW 16++[40]=[108,101,110,40] from rfl,du,r4 (m+59) (by omega) _ _ (by simp;omega),rJ];dsimp only;rw [ey rfl,ki,ih (m+59) (by omega) _ (by simp;omega),rK];dsimp only;rw [dZ (bR (show ¬ (-1:Int)≥0 by omega)),du,r4 (m+59) (by omega) _ _ (by simp;omega),rJ];dsimp only;rw [ey rfl];simp only [ej]
 | .bi k a a',h,i,⟨j,x,y,hi,hr,ha,B5⟩,n,hn,b,hb=>by
  have ih:=Me a h.2.1 x ha;have FO:=Me a' h.2.2 y B5;have hn:60 * (a.size+a'.size+1)≤n:=hn;obtain ⟨jx,hx⟩:=(TT.yZ ha)
  obtain ⟨jy,hy⟩:=(TT.yZ B5)
  have lU:¬ x < 0:=by omega
  have hy0:y≥0:=by omega
  obtain ⟨m,rfl⟩:=bl 60 n;have ajH:k≠15:=by
   rintro rfl;rcases h.1 with h | h | h | h
   ·exact absurd h (by decide)
   ·cases h
   ·cases h
   ·cases h
  refine OW _ ?_;refine gZ (v:=(k,[],0,[],x,y,())) hi hr (bV 6) rfl ?_;dsimp only;rw [dZ (bR lU),iE ajH,Bl,S6 (m+59) (by omega),wB];dsimp only;by_cases hk:xM k=true
  ·have e:gk (.bi k a a')=[40]++gk a++([32]++rM k++[32])++gk a'++[41]:=by simp only [gk,hk,bW]
   rw [e] at hb ⊢;have hs:=adp k;simp only [dL,fX,jE] at hb;rw [ey (by rw [apC hk];rfl),du,r4 (m+59) (by omega) _ _ (by simp;omega),rJ];dsimp only;rw [ey rfl,ki,ih (m+59) (by omega) _ (by simp;omega),rK];dsimp only;rw [Bl,S6 (m+59) (by omega),wB];dsimp only;refine (oE (aX (show 1+(rM k).length≤9223372036854775807 by omega))).trans ?_;refine (Ps (show ([32]++rM k:BB).length+1≤9223372036854775807 by simp;omega)).trans ?_;rw [du,r4 (m+59) (by omega) _ _ (by simp;omega),rJ];dsimp only;rw [ey rfl,ki,FO (m+59) (by omega) _ (by simp;omega),rK];dsimp only;rw [du,r4 (m+59) (by omega) _ _ (by simp;omega),rJ];dsimp only;rw [ey rfl];simp only [ej]
  ·have e:gk (.bi k a a')=(tW k++[40])++gk a++[44,32]++gk a'++[41]:=by simp only [gk,hk,dF];rfl
   have gH:k=17∨k=18∨k=19:=by rcases h.1 with h | h;exact absurd h hk;exact h
   have hsg:rM k=[]:=by rcases gH with rfl | rfl | rfl<;>rfl
   rw [e] at hb ⊢;have hs:=Iy k;simp only [dL,fX,jE] at hb;rw [hsg,dZ (by decide),N4,ab2 (m+59) (by omega),wB];dsimp only;refine (Ps (by omega)).trans ?_;rw [du,r4 (m+59) (by omega) _ _ (by simp;omega),rJ];dsimp only;rw [ey rfl,ki,ih (m+59) (by omega) _ (by simp;omega),rK];dsimp only;rw [ey (aX hy0),du,r4 (m+59) (by omega) _ _ (by simp;omega),rJ];dsimp only;rw [ey rfl,ki,FO (m+59) (by omega) _ (by simp;omega),rK];dsimp only;rw [du,r4 (m+59) (by omega) _ _ (by simp;omega),rJ];dsimp only;rw [ey rfl];simp only [ej]
theorem sgd (b:BB) (hb:b≠[]) (hl:b.length≤100000000000000):((D.dc b).length==(D.dc b).length && !((D.dc b).length==0)&&decide ((D.dc b).length≤140737488355328))=true:=by
 rw [mO,D2,aX (by omega)];cases b with
 | nil=>exact absurd rfl hb
 | cons=>rfl
theorem Uc (n:Nat) (hn:1≤n) (b:BB) (hb:b≠[]) (hl:b.length≤100000000000000):T n 37 [pE] [bx bm (bB b)]=some (.one (sC b),[bx yC ((),(),())]):=by
 obtain ⟨m,rfl⟩:=tL hn;refine XK _ ?_;cases b with
 | nil=>exact absurd rfl hb
 | cons c r=>
  dsimp only [MK,zZ];have h0:((D.dc (c::r)).length==0)=false:=by rw [mO];rfl
  refine (oE (by rw [h0];rfl)).trans ?_;refine (oE (sgd (c::r) (by simp) hl)).trans ?_;exact (qO _ (DL (c::r))).trans rfl
theorem acQ (s:BB) {R:Type} (K:BB×au yC×Unit→Option R):aG Ty (some (.one (sC s),[bx yC ((),(),())])) K=K (s,((),(),()),()):=rfl
theorem aqn:∀{t:TT},wi t→gk t≠[]
 | .lf k nm z tx,h=>by
  rcases h with ⟨rfl,h,rfl,rfl⟩ | ⟨rfl,rfl,rfl,h,h'⟩ | ⟨rfl,rfl,rfl,h⟩ | ⟨rfl,rfl,rfl,h⟩ | ⟨rfl,rfl,rfl,rfl⟩ | ⟨rfl,rfl,rfl,rfl⟩
  ·intro h1;have:nm=[]:=h1;subst this;cases h
  ·intro h1;have hp:=aow h h';rw [show pJ z=[] from h1] at hp;cases hp
  ·rcases h with rfl | rfl<;>simp [gk]
  ·simp [gk,ym]
  ·simp [gk]
  ·simp [gk]
 | .un k a,h=>by simp only [gk];split<;>simp
 | .bi k a b,h=>by simp only [gk];split<;>simp
theorem ap6 {t:TT} (h:wi t) {i:Int} (ha:t.at_ l i) (hl:(gk t).length≤100000000000000) {n:Nat} (hn:60 * t.size+3≤n) (hM:∀k,n≤k+1→T k 25 [.one (lC (.im x0) 6 l),.one (iC i)] []=some (.one (bC true),[])) :
  T n 15 [.one (lC (.im x0) 6 l),.one (iC i)] []=some (.one (sC (gk t)),[]):=by
 have hp:=Me x0 l t h i ha;obtain ⟨m,rfl⟩:=bl 1 n;refine XI _ ?_;rw [Er,hM m (bV _),AE];dsimp only;rw [dZ (show (!true)=false from rfl)];have:=hp m (by omega) [] (by simpa using hl);rw [uV] at this;have e:(bx bm ((),((Tag.im true),[]),()))=bx bm (bB []):=rfl;rw [ki,e,this,rK];dsimp only;rw [c37,Uc m (by omega) _ (aqn h) hl,acQ]
end
end
section
open Go Go.ax PT
structure TR where
 k:Int
 nm:BB
 n:Int
 tx:BB
 x:Int
 y:Int
def cR (t:TR):List D:=row t.k t.nm t.n t.tx t.x t.y
def jk (k:Int):Int:=if k=0∨k=1∨k=2∨k=3∨k=4∨k=5 then 0 else if k=15∨k=16 then 1
 else if k=6∨k=7∨k=8∨k=9∨k=10∨k=11∨k=12∨k=13∨k=14∨k=17∨k=18∨k=19 then 2 else -1
def ua (t:TR):Bool:=
 bif t.k==0 then (bif gK t.nm then (bif t.n==0 then t.tx==[] else false) else false)
 else bif t.k==1 then (bif t.nm==[] then t.tx==[] else false)
 else bif t.k==2 then (bif t.nm==[] then (bif t.tx==[] then (bif t.n==0 then true else t.n==1) else false) else false)
 else bif t.k==3 then (bif t.nm==[] then (bif t.n==0 then decide (t.tx.length≤24) else false) else false)
 else (bif t.nm==[] then (bif t.n==0 then t.tx==[] else false) else false)
abbrev WF:=Nat→Int→List Bool→Bool×List Bool
def di (rc:WF) (ops i to:Int) (a:Nat) (d:Int) (m:List Bool):Bool×List Bool:=
 bif decide (i≥ops) then (decide (to = -1),m) else bif decide (to < 0) then (false,m) else bif decide (to≥(a:Int)) then (false,m) else rc to.toNat (d+1) m
def AV (rc:WF) (l:List TR) (a:Nat) (d:Int) (m:List Bool):Bool×List Bool:=
 match l[a]? with
 | none=>(false,m)
 | some t=>
  bif m.getD a false then (false,m) else bif decide (d > 24) then (false,m) else bif decide (jk t.k < 0) then (false,m) else bif !(ua t) then (false,m)
  else bif (di rc (jk t.k) 0 t.x a d (m.set a true)).1 then di rc (jk t.k) 1 t.y a d (di rc (jk t.k) 0 t.x a d (m.set a true)).2 else (false,(di rc (jk t.k) 0 t.x a d (m.set a true)).2)
def wk (l:List TR):Nat→WF
 | 0=>fun _ _ m=>(false,m)
 | f+1=>AV (wk l f) l
theorem aor (n:Nat) (hn:2≤n) (k:Int):T n 68 [.one (iC k)] []=some (.one (iC (jk k)),[]):=by
 obtain ⟨m,rfl⟩:=tL hn;refine ahN _ ?_;by_cases h0:k=0∨k=1∨k=2∨k=3∨k=4∨k=5
 ·rcases h0 with rfl | rfl | rfl | rfl | rfl | rfl<;>rfl
 by_cases h1:k=15∨k=16
 ·rcases h1 with rfl | rfl<;>rfl
 by_cases h2:k=6∨k=7∨k=8∨k=9∨k=10∨k=11∨k=12∨k=13∨k=14∨k=17∨k=18∨k=19
 ·rcases h2 with rfl | rfl | rfl | rfl | rfl | rfl | rfl | rfl | rfl | rfl | rfl | rfl<;>rfl
 rw [show jk k = -1 by unfold jk;rw [aB h0,aB h1,aB h2]];simp only [not_or] at h0 h1 h2;rw [iE h0.1,iE h0.2.1,iE h0.2.2.1,iE h0.2.2.2.1,iE h0.2.2.2.2.1,iE h0.2.2.2.2.2,iE h1.1,iE h1.2,iE h2.1,iE h2.2.1,iE h2.2.2.1,iE h2.2.2.2.1,iE h2.2.2.2.2.1,iE h2.2.2.2.2.2.1,iE h2.2.2.2.2.2.2.1,iE h2.2.2.2.2.2.2.2.1,iE h2.2.2.2.2.2.2.2.2.1,iE h2.2.2.2.2.2.2.2.2.2.1,iE h2.2.2.2.2.2.2.2.2.2.2.1,iE h2.2.2.2.2.2.2.2.2.2.2.2];rfl
theorem pq {b:Bool} {p q:OR} {x y:Bool} (h:p=some (.one (bC x),[])) (h':q=some (.one (bC y),[])):(bif b then p else q)=some (.one (bC (bif b then x else y)),[]):=by
 subst h h';cases b<;>rfl
theorem aiO (n:Nat) (hn:30≤n) (t:TR):T n 69 [.agg [iC t.k,sC t.nm,iC t.n,sC t.tx,iC t.x,iC t.y]] []=some (.one (bC (ua t)),[]):=by
 obtain ⟨m,rfl⟩:=bl 30 n;refine ahM _ ?_;unfold ua;rw [fF,vX (m+29) (by omega),AE];dsimp only;refine pq (pq (pq rfl rfl) rfl) (pq (pq rfl rfl) (pq (pq (pq (pq rfl rfl) rfl) rfl) (pq (pq (pq ?_ rfl) rfl) (pq (pq rfl rfl) rfl))));exact fU (fun b=>(some (V.one (bC b),[]):OR)) (Vn.2 (show ae t.tx.length≤24↔t.tx.length≤24 by rw [pL];omega))
theorem ap2 {R:Type} (z:Bool) (K:au [.bool]→Option R):cw [.bool] (List.take 1 (List.drop 0 [.bool z])) K=K (z,()):=rfl
section
variable (x0:Bool) (l:List TR)
abbrev w4 (x0:Bool) (l:List TR):au [.tg 6]:=((.im x0,l.map cR),())
abbrev tV (m:List Bool):au [.tg 1]:=((.own,m.map fun b=>[D.bool b]),())
abbrev wZ:au kA:=((),())
theorem ao7 (b:Bool) (m:List Bool) {R:Type} (K:Bool×au [.tg 6]×au [.tg 1]×au kA×Unit→Option R) :
 aG Hc (some (.one (bC b),[bx [.tg 6] (w4 x0 l),bx [.tg 1] (tV m),bx kA wZ])) K=K (b,w4 x0 l,tV m,wZ,()):=rfl
abbrev NJ (r:Bool×List Bool):OR:=some (.one (bC r.1),[bx [.tg 6] (w4 x0 l),bx [.tg 1] (tV r.2),bx kA wZ])
def HW (n:Nat) (rc:WF) (d:Int):Prop:=∀(c:Nat) (m:List Bool),c < l.length→m.length=l.length→
 T n 67 [.one (iC (c:Int)),.one (iC d),pE,.one (.ptr (.e 1) 0 0),.one (.ptr (.e 2) 0 0)] [bx [.tg 6] (w4 x0 l),bx [.tg 1] (tV m),bx kA wZ]=NJ x0 l (rc c d m)
variable {x0 l}
theorem it (n q k:Nat) (rc:WF) (a:Nat) (d:Int) (hd : -1000 < d∧d < 1000) (hw:HW x0 l n rc (d+1)) (ha:a < l.length) {x2 x3 x4} (m:List Bool) (hm:m.length=l.length) (ops:Int) (L R:Int) (i:Nat) (to:Int)
  (hi:(i=0∧to=L)∨(i=1∧to=R)) :
  C5 (T n) q x2 x3 x4 (k+1) (a:Int) d (w4 x0 l) (tV m) wZ ops [[.int .i64 L],[.int .i64 R]] 2 (i:Int) =
   bif (di rc ops i to a d m).1 then C5 (T n) q x2 x3 x4 k (a:Int) d (w4 x0 l) (tV (di rc ops i to a d m).2) wZ ops [[.int .i64 L],[.int .i64 R]] 2 ((i+1:Nat):Int)
   else NJ x0 l (false,(di rc ops i to a d m).2):=by
 rw [aaN];have Qo:i < 2:=by omega
 rw [ey (aX (by omega))];have hr:([[.int .i64 L],[.int .i64 R]]:RR)[i]? = some [.int .i64 to]:=by
  rcases hi with ⟨rfl,rfl⟩ | ⟨rfl,rfl⟩<;>rfl
 refine sO (v:=(to,())) rfl hr (bV 1) rfl ?_;dsimp only;have w1:ao ((i:Int)+1)=((i+1:Nat):Int):=M0 i (by omega);rw [w1];unfold di;by_cases h1:(i:Int)≥ops
 ·rw [ey (aX h1),ey (aX h1)];by_cases h2:to = -1
  ·subst h2;rw [dZ (by decide)];rfl
  ·rw [ey (by simpa using h2),bR h2];rfl
 ·rw [dZ (bR h1),dZ (bR h1)];by_cases h2:to < 0
  ·rw [ey (aX h2),ey (aX h2)];rfl
  ·rw [dZ (bR h2),dZ (bR h2)];by_cases h3:to≥(a:Int)
   ·rw [ey (aX h3),ey (aX h3)];rfl
   ·rw [dZ (bR h3),dZ (bR h3)];have e1:ao (d+1)=d+1:=by show IntKind.wrap .i64 _=_;rw [wrap_i64 (by omega) (by omega)]
    have e2:to=((to.toNat:Nat):Int):=by omega
    have:=hw to.toNat m (by omega) hm;rw [←e2] at this;rw [e1];refine (fU (fun o=>aG Hc o _) this).trans ?_;rw [ao7];dsimp only;cases (rc to.toNat (d+1) m).1<;>rfl
theorem Ua {rc:WF} (hl:∀c d m,m.length=l.length→(rc c d m).2.length=l.length) (ops i to:Int) (a:Nat) (d:Int) (m:List Bool) (hm:m.length=l.length):(di rc ops i to a d m).2.length=l.length:=by
 unfold di;cases decide (i≥ops)
 ·cases decide (to < 0)
  ·cases decide (to≥(a:Int))
   ·exact hl _ _ _ hm
   ·exact hm
  ·exact hm
 ·exact hm
theorem aeO:∀(f:Nat) (c:Nat) (d:Int) (m:List Bool),m.length=l.length→(wk l f c d m).2.length=l.length
 | 0,c,d,m,hm=>hm
 | f+1,c,d,m,hm=>by
  have ih:=aeO f;show (AV (wk l f) l c d m).2.length=_;unfold AV;cases l[c]? with
  | none=>exact hm
  | some t=>
   dsimp only;cases m.getD c false with
   | true=>exact hm
   | false=>
    cases decide (d > 24) with
    | true=>exact hm
    | false=>
     cases decide (jk t.k < 0) with
     | true=>exact hm
     | false=>
      cases !(ua t) with
      | true=>exact hm
      | false=>
       have h1:=Ua ih (jk t.k) 0 t.x c d (m.set c true) (by simpa using hm);dsimp only [cond_false];cases (di (wk l f) (jk t.k) 0 t.x c d (m.set c true)).1 with
       | true=>exact Ua ih _ _ _ _ _ _ h1
       | false=>exact h1
theorem aeK:∀(f:Nat) (d:Int),1≤d→d≤25→26≤(f:Int)+d→∀n,60+f≤n→HW x0 l n (wk l f) d
 | 0,d,h1,h2,h3,n,hn=>by omega
 | f+1,d,h1,h2,h3,n,hn=>by
  intro a m ha hm;obtain ⟨n,rfl⟩:∃n',n=n'+60:=⟨n - 60,by omega⟩
  refine ahK _ ?_;have QV:l[a]? = some l[a]:=gE ha;generalize l[a]=t at QV;have QA:m[a]? = some (m.getD a false):=by
   rw [kD,gE (by omega)];rfl
  refine rR (gZ (v:=(t.k,t.nm,t.n,t.tx,t.x,t.y,())) rfl (show (l.map cR)[a]? = some (cR t) by rw [bQ,QV];rfl) (bV 6) rfl ?_);dsimp only;refine aqd (aor (n+59) (by omega) t.k) (lh (sO (v:=(m.getD a false,())) rfl (show (m.map fun b=>[D.bool b])[a]? = some [D.bool (m.getD a false)] by rw [bQ,QA];rfl) (bV 1) rfl ?_));dsimp only;show _=NJ x0 l (AV (wk l f) l a d m);unfold AV;rw [QV];dsimp only;cases m.getD a false with
  | true=>rfl
  | false=>
   rw [cond_false,cond_false];by_cases g1:d > 24
   ·rw [ey (aX g1),ey (aX g1)]
   ·rw [dZ (bR g1),dZ (bR g1)];by_cases g2:jk t.k < 0
    ·rw [ey (aX g2),ey (aX g2)]
    ·rw [dZ (bR g2),dZ (bR g2),WY,aiO (n+59) (by omega),AE];dsimp only;cases ua t with
     | false=>rfl
     | true=>
      rw [dZ (show (!true)=false from rfl),dZ (show (!true)=false from rfl),anq];dsimp only [zZ];rw [Mf _ rfl];refine (oE (aX (by rw [cf];omega))).trans ?_;refine (qO (b:=[D.bool (m.getD a false)]) _ (by rw [de,bQ,QA];rfl)).trans ?_;refine (oE rfl).trans ?_;rw [ap2];have JC:bY (m.map fun b=>[D.bool b]) (0+a) 0 (D.bool true)=(m.set a true).map fun b=>[D.bool b]:=by
       unfold bY;rw [de,A3];congr 1;rw [kD,bQ,QA];rfl
      rw [JC];have hw:HW x0 l (n+59) (wk l f) (d+1):=aeK f (d+1) (by omega) (by omega) (by omega) (n+59) (by omega);have oP:(m.set a true).length=l.length:=by simpa using hm
      have e0:=it (n+59) (n+59) (n+58) (wk l f) a d (by omega) hw ha (x2:=w4 x0 l) (x3:=tV m) (x4:=wZ) (m.set a true) oP (jk t.k) t.x t.y 0 t.x (.inl ⟨rfl,rfl⟩);refine e0.trans ?_;have kx:=Ua (aeO f) (jk t.k) 0 t.x a d (m.set a true) oP;rw [show ((0:Nat):Int)=0 from rfl] at *;generalize di (wk l f) (jk t.k) 0 t.x a d (m.set a true)=r at kx ⊢;cases r.1 with
      | false=>rfl
      | true=>
       rw [HO,HO];have e1:=it (n+59) (n+59) (n+57) (wk l f) a d (by omega) hw ha (x2:=w4 x0 l) (x3:=tV m) (x4:=wZ) r.2 kx (jk t.k) t.x t.y 1 t.y (.inr ⟨rfl,rfl⟩);refine e1.trans ?_;rw [show ((1:Nat):Int)=1 from rfl];generalize qx:di (wk l f) (jk t.k) 1 t.y a d r.2=r2;cases h:r2.1 with
       | false=>rw [cond_false];cases r2;subst h;rfl
       | true=>
        rw [HO,aaN];rw [dZ (by decide)];cases r2;subst h;rfl
def sX (l:List TR) (root:Int):Bool:=decide (l.length≤160)&&(decide (0≤root)&&(decide (root < l.length)&&(wk l 25 root.toNat 1 (List.replicate l.length false)).1))
theorem abl (root:Int) (n:Nat) (hn:100≤n):T n 25 [.one (lC (.im x0) 6 (l.map cR)),.one (iC root)] []=some (.one (bC (sX l root)),[]):=by
 obtain ⟨n,rfl⟩:∃n',n=n'+100:=⟨n - 100,by omega⟩
 refine ahJ _ ?_;unfold sX;rw [cf,pL];by_cases h1:l.length≤160
 ·rw [dZ (bR (by omega)),aX h1];by_cases h2:0≤root
  ·rw [dZ (bR (by omega)),aX h2];by_cases h3:root < l.length
   ·rw [dZ (bR (by omega)),aX h3,anp];dsimp only [zZ];refine (oE ?_).trans ?_
    ·rw [cf,aX (bV _),aX (by omega),aX (by omega)];cases (l.length==0)<;>rfl
    ·have hw:HW x0 l (n+99) (wk l 25) 1:=aeK 25 1 (by omega) (by omega) (by omega) (n+99) (by omega);have h:=hw root.toNat (List.replicate l.length false) (by omega) (by simp);rw [show ((root.toNat:Nat):Int)=root by omega] at h;have e:tV (List.replicate l.length false)=((.own,List.replicate (l.map cR).length [D.bool false]),()):=by
      unfold tV;rw [List.map_replicate,cf]
     rw [e] at h;refine (fU (fun o=>aG Hc o _) h).trans ?_;rfl
   ·rw [ey (aX (by omega)),bR h3];rfl
  ·rw [ey (aX (by omega)),bR h2];rfl
 ·rw [ey (aX (by omega)),bR h1];rfl
end
end
section
open Go Go.ax PT
def Cx (t:TR):Prop:=-9223372036854775808≤t.n∧t.n≤9223372036854775807
theorem aot (k:Int):(jk k=0∧(k=0∨k=1∨k=2∨k=3∨k=4∨k=5))∨(jk k=1∧(k=15∨k=16))∨(jk k=2∧(xM k=true∨k=17∨k=18∨k=19))∨jk k = -1:=by
 unfold jk;by_cases h0:k=0∨k=1∨k=2∨k=3∨k=4∨k=5
 ·rw [aJ h0];exact .inl ⟨rfl,h0⟩
 ·rw [aB h0];by_cases h1:k=15∨k=16
  ·rw [aJ h1];exact .inr (.inl ⟨rfl,h1⟩)
  ·rw [aB h1];by_cases h2:k=6∨k=7∨k=8∨k=9∨k=10∨k=11∨k=12∨k=13∨k=14∨k=17∨k=18∨k=19
   ·rw [aJ h2];refine .inr (.inr (.inl ⟨rfl,?_⟩));unfold xM;simp only [bK,fB];omega
   ·rw [aB h2];exact .inr (.inr (.inr rfl))
theorem anP {t:TR} (h0:t.k=0∨t.k=1∨t.k=2∨t.k=3∨t.k=4∨t.k=5) (hf:ua t=true) (hr:Cx t):Lv t.k t.nm t.n t.tx:=by
 obtain ⟨k,nm,n,tx,x,y⟩:=t;unfold Cx at hr;simp only at h0 hr ⊢;unfold Lv;rcases h0 with rfl | rfl | rfl | rfl | rfl | rfl<;>simp [ua,Bool.cond_eq_ite] at hf
 ·exact .inl ⟨rfl,hf⟩
 ·exact .inr (.inl ⟨rfl,hf.1,hf.2,hr⟩)
 ·exact .inr (.inr (.inl ⟨rfl,hf⟩))
 ·exact .inr (.inr (.inr (.inl ⟨rfl,hf⟩)))
 ·exact .inr (.inr (.inr (.inr (.inl ⟨rfl,hf⟩))))
 ·exact .inr (.inr (.inr (.inr (.inr ⟨rfl,hf⟩))))
theorem Yy {t:TR} (h0:¬ (t.k=0∨t.k=1∨t.k=2∨t.k=3)) (hf:ua t=true):t.nm=[]∧t.n=0∧t.tx=[]:=by
 obtain ⟨k,nm,n,tx,x,y⟩:=t;simp only [not_or] at h0;unfold ua at hf;simp only at hf h0 ⊢;rw [iE h0.1,iE h0.2.1,iE h0.2.2.1,iE h0.2.2.2] at hf;simp [Bool.cond_eq_ite] at hf;exact hf
def dT (m:List Bool):Nat:=m.count true
theorem afQ (m:List Bool):dT m≤m.length:=HC
theorem Xp:∀(m:List Bool) (a:Nat),a < m.length→m.getD a false=false→dT (m.set a true)=dT m+1
 | [],a,h,_=>by simp at h
 | b::m,0,h,h'=>by
  have:b=false:=by simpa using h'
  subst this;simp [dT]
 | b::m,a+1,h,h'=>by
  have:=Xp m a (by simpa using h) (by simpa using h');simp only [dT,List.set_cons_succ,U0] at this ⊢;omega
theorem adT {rc:WF} {ops i to:Int} {a:Nat} {d:Int} {m:List Bool} (h:(di rc ops i to a d m).1=true) :
  (i≥ops∧to = -1∧(di rc ops i to a d m).2=m)∨(i < ops∧∃c:Nat,to=c∧c < a∧rc c (d+1) m=(true,(di rc ops i to a d m).2)):=by
 unfold di at h ⊢;by_cases h1:i≥ops
 ·rw [ey (aX h1)] at h ⊢;exact .inl ⟨h1,by simpa using h,rfl⟩
 ·rw [dZ (bR h1)] at h ⊢;by_cases h2:to < 0
  ·rw [ey (aX h2)] at h;cases h
  ·rw [dZ (bR h2)] at h ⊢;by_cases h3:to≥(a:Int)
   ·rw [ey (aX h3)] at h;cases h
   ·rw [dZ (bR h3)] at h ⊢;refine .inr ⟨by omega,to.toNat,by omega,by omega,?_⟩;generalize rc to.toNat (d+1) m=r at h ⊢;cases r;subst h;rfl
theorem aeP {l:List TR} (hr:∀t∈l,Cx t):∀(f a:Nat) (d:Int) (m m':List Bool),m.length=l.length→wk l f a d m=(true,m')→
  ∃t,wi t∧t.at_ (l.map cR) a∧(t.deep:Int)+d≤25∧m'.length=l.length∧dT m'=dT m+t.size
 | 0,a,d,m,m',hm,h=>by cases h
 | f+1,a,d,m,m',hm,h=>by
  have ih:=aeP hr f;have h:AV (wk l f) l a d m=(true,m'):=h;unfold AV at h;cases ht:l[a]? with
  | none=>rw [ht] at h;cases h
  | some t=>
   rw [ht] at h;dsimp only at h;have Ch:t∈l:=fp ht;have hla:a < l.length:=(cA.1 ht).1;have c6:(l.map cR)[a]? = some (cR t):=by rw [bQ,ht];rfl
   cases hg:m.getD a false with
   | true=>rw [hg] at h;cases h
   | false=>
    rw [hg,cond_false] at h;by_cases g1:d > 24
    ·rw [ey (aX g1)] at h;cases h
    rw [dZ (bR g1)] at h;by_cases g2:jk t.k < 0
    ·rw [ey (aX g2)] at h;cases h
    rw [dZ (bR g2)] at h;cases g3:ua t with
    | false=>rw [g3] at h;cases h
    | true=>
     rw [g3,dZ (show (!true)=false from rfl)] at h;have hs:=Xp m a (by omega) hg;have lS:(m.set a true).length=l.length:=by simpa using hm
     generalize m.set a true=m1 at h hs lS;cases g4:(di (wk l f) (jk t.k) 0 t.x a d m1).1 with
     | false=>rw [g4] at h;cases h
     | true=>
      rw [g4,HO] at h;have i0:=adT g4;generalize (di (wk l f) (jk t.k) 0 t.x a d m1).2=m2 at h i0;have i1:=adT (show (di (wk l f) (jk t.k) 1 t.y a d m2).1=true by rw [h]);rw [h] at i1;rcases aot t.k with ⟨hk,gH⟩ | ⟨hk,gH⟩ | ⟨hk,gH⟩ | hk
      ·rw [hk] at i0 i1;rcases i0 with ⟨_,hx,rfl⟩ | ⟨h9,_⟩
       ·rcases i1 with ⟨_,hy,h8⟩ | ⟨h9,_⟩
        ·simp only at h8;subst h8;refine ⟨.lf t.k t.nm t.n t.tx,anP gH g3 (hr t Ch),⟨a,rfl,?_⟩,?_,lS,hs⟩
         ·rw [c6];unfold cR;rw [hx,hy]
         ·show ((1:Nat):Int)+d≤25;omega
        ·omega
       ·omega
      ·rw [hk] at i0 i1;obtain ⟨e1,e2,e3⟩:=Yy (by omega) g3;rcases i0 with ⟨h9,_⟩ | ⟨_,c,hx,hc,rf⟩
       ·omega
       ·rcases i1 with ⟨_,hy,h8⟩ | ⟨h9,_⟩
        ·simp only at h8;subst h8;obtain ⟨t1,l8,Bh,dp1,jJ,c1⟩:=ih c (d+1) m1 m' lS rf;refine ⟨.un t.k t1,⟨gH,l8⟩,⟨a,t.x,rfl,?_,?_⟩,?_,jJ,?_⟩
         ·rw [c6];unfold cR;rw [hy,e1,e2,e3]
         ·rw [hx];exact Bh
         ·show ((t1.deep+1:Nat):Int)+d≤25;omega
         ·show dT m'=dT m+(t1.size+1);omega
        ·omega
      ·rw [hk] at i0 i1;have hk3:¬ (t.k=0∨t.k=1∨t.k=2∨t.k=3):=by
        rcases gH with h | h | h | h
        ·unfold xM at h;simp only [bK,fB] at h;omega
        ·omega
        ·omega
        ·omega
       obtain ⟨e1,e2,e3⟩:=Yy hk3 g3;rcases i0 with ⟨h9,_⟩ | ⟨_,c,hx,hc,rf⟩
       ·omega
       ·rcases i1 with ⟨h9,_⟩ | ⟨_,c',hy,kO,aj3⟩
        ·omega
        ·obtain ⟨t1,l8,Bh,dp1,jJ,c1⟩:=ih c (d+1) m1 m2 lS rf;obtain ⟨t2,yd,at2,dp2,dO,c2⟩:=ih c' (d+1) m2 m' jJ aj3;refine ⟨.bi t.k t1 t2,⟨gH,l8,yd⟩,⟨a,t.x,t.y,rfl,?_,?_,?_⟩,?_,dO,?_⟩
         ·rw [c6];unfold cR;rw [e1,e2,e3]
         ·rw [hx];exact Bh
         ·rw [hy];exact at2
         ·show ((max t1.deep t2.deep+1:Nat):Int)+d≤25;omega
         ·show dT m'=dT m+(t1.size+t2.size+1);omega
      ·omega
theorem an0 {l:List TR} (hr:∀t∈l,Cx t) {root:Int} (h:sX l root=true):∃t,wi t∧t.at_ (l.map cR) root∧t.deep≤24∧t.size≤l.length:=by
 unfold sX at h;simp only [bK,fB] at h;obtain ⟨h1,h2,h3,h4⟩:=h;have h5:wk l 25 root.toNat 1 (List.replicate l.length false)=(true,(wk l 25 root.toNat 1 (List.replicate l.length false)).2):=by
  generalize wk l 25 root.toNat 1 (List.replicate l.length false)=r at h4 ⊢;cases r;subst h4;rfl
 obtain ⟨t,ok,Bh,dp,hl,c⟩:=aeP hr 25 root.toNat 1 _ _ (by simp) h5;have c0:dT (List.replicate l.length false)=0:=by simp [dT,List.count_replicate]
 have:=afQ (wk l 25 root.toNat 1 (List.replicate l.length false)).2;rw [show ((root.toNat:Nat):Int)=root by omega] at Bh;exact ⟨t,ok,Bh,by omega,by omega⟩
end
section
open Go Go.ax PT
def Wp (o:OR) (Q:V→List (List C)→Prop):Prop:=∃v bs,o=some (v,bs)∧Q v bs
abbrev J (rs:RS) (K:rs.T→OR) (Q:V→List (List C)→Prop):V→List (List C)→Prop:=fun v bs=>Wp (aG rs (some (v,bs)) K) Q
section
variable {o x y:OR} {Q Q':V→List (List C)→Prop}
theorem az {v:V} {bs:List (List C)} (h:Q v bs):Wp (some (v,bs)) Q:=⟨v,bs,rfl,h⟩
theorem aC (h:o=x) (h2:Wp x Q):Wp o Q:=h▸h2
theorem Wp.mono (h:Wp o Q) (h2:∀v bs,Q v bs→Q' v bs):Wp o Q':=by
 obtain ⟨v,bs,e,q⟩:=h;exact ⟨v,bs,e,h2 v bs q⟩
theorem ai {b:Bool} (h:b=true→Wp x Q) (h':b=false→Wp y Q):Wp (bif b then x else y) Q:=by
 cases b
 ·exact h' rfl
 ·exact h rfl
theorem gl {b:Bool} (hb:b=true) (h:Wp x Q):Wp (bif b then x else y) Q:=by subst hb;exact h
theorem eh {b:Bool} (hb:b=false) (h:Wp y Q):Wp (bif b then x else y) Q:=by subst hb;exact h
theorem aD {b:Bool} (hb:b=true) (h:Wp x Q):Wp (gd b x) Q:=by subst hb;exact h
theorem cg {n:Nat} (hn:n≤9223372036854775807) (h:Wp x Q):Wp (aN n x) Q:=by
 unfold aN;rw [show decide (n≤9223372036854775807)=true from aX hn];exact h
theorem fm {β:Type} {a:Option β} {b:β} {K:β→OR} (ha:a=some b) (h:Wp (K b) Q):Wp (aH a K) Q:=by subst ha;exact h
theorem ig {z:Int} {n:Nat} {K:Nat→OR} (hz:z=(n:Int)) (h:Wp (K n) Q):Wp (aH (cm z) K) Q:=fm (Ib hz) h
theorem jc {f:Tag→OR} (h:Wp (f .own) Q):Wp (zZ .own f) Q:=h
theorem eZ {b:Bool} {f:Tag→OR} (h:Wp (f (.im b)) Q):Wp (zZ (.im b) f) Q:=h
theorem iA {ds:List DS} {l:List D} {v:au ds} {K:au ds→OR} (hd:eb ds l=some v) (h:Wp (K v) Q):Wp (cw ds l K) Q:=by
 simp only [cw,hd];exact h
theorem aM {X:Type} {ds:List DS} {c n:Nat} {L:List X} {enc:X→List D} {f:X→au ds} (hd:∀a,c+n≤(enc a).length∧eb ds (List.take n (List.drop c (enc a)))=some (f a)) {z:Int} {i:Nat} {K:au ds→OR} (hz:z=(i:Int)) {a:X} (ha:L[i]? = some a) (h:Wp (K (f a)) Q):Wp (iR ds c n (L.map enc) z K) Q:=
 aC (gZ hz (r:=enc a) (by rw [bQ,ha];rfl) (hd a).1 (hd a).2 rfl) h
theorem oi {X:Type} {ds:List DS} {c n:Nat} {L:List X} {enc:X→List D} {f:X→au ds} (hd:∀a,c+n≤(enc a).length∧eb ds (List.take n (List.drop c (enc a)))=some (f a)) {z:Int} {i:Nat} {K:au ds→OR} (hz:z=(i:Int)) {a:X} (ha:L[i]? = some a) (h:Wp (K (f a)) Q):Wp (iV ds c n (L.map enc) z K) Q:=
 aC (sO hz (r:=enc a) (by rw [bQ,ha];rfl) (hd a).1 (hd a).2 rfl) h
end
end
end Go.Proofs.YtfmpdgeiodnnfaaGreatDoor
namespace Go.Proofs.YtfmpdgeiodnnfaaGreatDoor.QQ
section
open Go Go.ax
def bF (x:Int):List D:=[.int .i64 x]
theorem nw:∀a:Int,0+1≤(bF a).length∧eb cd (List.take 1 (List.drop 0 (bF a)))=some ((fun b=>(b,())) a):=(fun a=>⟨by simp [bF],rfl⟩)
def cB (d:au ak):Prop:=∃(t:Tag) (l:List Int) (a:Nat),d=((t,l.map bF),(a:Int),())∧a≤l.length∧l.length≤100000000000000000
theorem aei {z:Int} {n:Nat} (h:z=n) (hn:n≤1000000000000000000):ao z=(n:Int):=by subst h;exact DT (by omega) (by omega)
theorem aoC (x:Int) {k:Nat} (hk:1≤k) (ku:k≤1000000):iP (k:Int)=k∧∃j:Nat,ao ((iP x).tmod (iP (k:Int)))=j∧j < k:=by
 have hw:iP (k:Int)=k:=by
  show IntKind.wrap .u64 _=_;simp only [IntKind.wrap,IntKind.signed,IntKind.bits];simp;omega
 refine ⟨hw,?_⟩;rw [hw];have h0:0≤iP x:=by
  show 0≤IntKind.wrap .u64 _;simp only [IntKind.wrap,IntKind.signed,IntKind.bits];simp;omega
 have h1:(iP x).tmod (k:Int)=(iP x) % (k:Int):=UX h0;rw [h1];have h2:=Int.emod_nonneg (iP x) (show (k:Int)≠0 by omega);have h3:=Int.emod_lt_of_pos (iP x) (show (0:Int) < k by omega);exact ⟨((iP x) % (k:Int)).toNat,by rw [DT (by omega) (by omega)];omega,by omega⟩
theorem pick (n:Nat) (hn:3≤n) {k:Nat} (hk:1≤k) (ku:k≤1000000) {d:au ak} (hd:cB d) :
  ∃(j:Nat) (d':au ak),j < k∧cB d'∧T n 73 [pE,.one (iC k)] [bx ak d]=some (.one (iC j),[bx ak d']):=by
 obtain ⟨m,rfl⟩:=bl 3 n;obtain ⟨t,l,a,rfl,ha,hl⟩:=hd;have nQ:decide ((k:Int) < 1)=false:=bR (by omega);by_cases af:a < l.length
 ·have eP:decide ((a:Int)≥ae (l.map bF).length)=false:=bR (by rw [bI];simp;omega);obtain ⟨hw,j,hj,Zj⟩:=aoC (l[a]) hk ku;have Zu:(!decide (iP (k:Int)=0))=true:=by rw [hw];simp;omega
  have hg:(l.map bF)[a]? = some [.int .i64 l[a]]:=by rw [bQ,gE af];rfl
  have hs:ao ((a:Int)+1)=((a+1:Nat):Int):=aei (by omega) (by omega);have hx:ao (ao ((a:Int)+1) - 1)=(a:Int):=by rw [hs];exact aei (by omega) (by omega)
  cases t with
  | im b=>
   refine ⟨j,((.im b,l.map bF),((a+1:Nat):Int),()),Zj,⟨_,l,a+1,rfl,by omega,hl⟩,OX _ ?_⟩;refine bO nQ (rR (bO eP ?_));rw [aao];refine rR (gZ (v:=(l[a],())) hx hg (by simp) rfl (dC Zu ?_));dsimp only;rw [hj,hs]
  | own=>
   refine ⟨j,((.own,l.map bF),((a+1:Nat):Int),()),Zj,⟨_,l,a+1,rfl,by omega,hl⟩,OX _ ?_⟩;refine bO nQ (lh (bO eP ?_));rw [aao];refine lh (sO (v:=(l[a],())) hx hg (by simp) rfl (dC Zu ?_));dsimp only;rw [hj,hs]
 ·have eP:decide ((a:Int)≥ae (l.map bF).length)=true:=aX (by rw [bI];simp;omega);refine ⟨0,((t,l.map bF),(a:Int),()),by omega,⟨t,l,a,rfl,ha,hl⟩,OX _ ?_⟩;refine bO nQ ?_;cases t with
  | im b=>exact rR (dx eP rfl)
  | own=>exact lh (dx eP rfl)
end
section
open Go Go.ax
def qA:List BB:=[[119],[120],[121],[122],[111,107]]
def iT:List (Int×BB):=[(0,[]),(1,[]),(2,[]),(3,[]),(4,[]),(5,[112,46,97]),(5,[112,46,98]),(5,[112,46,99]),(5,[112,46,100]),(5,[113,46,97]),(5,[113,46,98]),(5,[113,46,99]),(5,[113,46,100])]
structure AM where
 mF:BB
 kd:Int
 nm:BB
 nx:Nat
def cM (a:AM):List D:=[.str a.mF,.int .i64 a.kd,.str a.nm,.int .i64 (a.nx:Int)]
theorem G3:∀a:AM,1+2≤(cM a).length∧eb ka (List.take 2 (List.drop 1 (cM a)))=some ((fun a=>(a.kd,a.nm,())) a):=(fun a=>⟨by simp [cM],rfl⟩)
theorem Ds:∀a:AM,0+1≤(cM a).length∧eb [DS.str] (List.take 1 (List.drop 0 (cM a)))=some ((fun a=>(a.mF,())) a):=(fun a=>⟨by simp [cM],rfl⟩)
theorem yo:∀a:AM,3+1≤(cM a).length∧eb cd (List.take 1 (List.drop 3 (cM a)))=some ((fun a=>((a.nx:Int),())) a):=(fun a=>⟨by simp [cM],rfl⟩)
def As (P:Nat) (a:AM):Prop:=a.mF∈qA∧(a.kd,a.nm)∈iT∧a.nx < P
def nr (P:Nat) (l:List AM):Prop:=1≤l.length∧l.length≤3∧(l.map AM.mF).Nodup∧∀a∈l,As P a
def gM (s:List BB):RR:=s.map fun x=>[.str x]
def mD (s:List BB):Prop:=s.length≤5∧∀x∈s,((5:Int),x)∈iT
theorem Mt (n:Nat) (hn:1≤n):T n 48 [] []=some (.one (lC (.im false) 1 [[.str [97]],[.str [98]],[.str [99]],[.str [100]],[.str [101]]]),[]):=by
 obtain ⟨m,rfl⟩:=bl 1 n;exact agS _ rfl
theorem Lt (n:Nat) (hn:1≤n):T n 49 [] []=some (.one (lC (.im false) 1 [[.str [119]],[.str [120]],[.str [121]],[.str [122]]]),[]):=by
 obtain ⟨m,rfl⟩:=bl 1 n;exact agL _ rfl
theorem IG (n:Nat) (hn:4≤n) {d:au ak} (hd:cB d):∃(k:Int) (d':au ak),(k,[])∈iT∧cB d'∧T n 184 [pE] [bx ak d]=some (.agg [iC k,sC []],[bx ak d']):=by
 obtain ⟨m,rfl⟩:=bl 1 n;obtain ⟨j,d',hj,dy,e⟩:=pick m (by omega) (k:=6) (by omega) (by omega) hd;have hk:∃k:Int,([[.int .i64 1],[.int .i64 0],[.int .i64 1],[.int .i64 2],[.int .i64 3],[.int .i64 4]]:RR)[j]? = some [.int .i64 k]∧(k,([]:BB))∈iT:=by
  match j,hj with
  | 0,_=>exact ⟨1,rfl,by decide⟩
  | 1,_=>exact ⟨0,rfl,by decide⟩
  | 2,_=>exact ⟨1,rfl,by decide⟩
  | 3,_=>exact ⟨2,rfl,by decide⟩
  | 4,_=>exact ⟨3,rfl,by decide⟩
  | 5,_=>exact ⟨4,rfl,by decide⟩
 obtain ⟨k,hk,xx⟩:=hk;refine ⟨k,d',xx,dy,agt _ ?_⟩;refine jC e ?_;dsimp only;refine qo (Ia j) (dC (aX hj) (qo (b:=[.int .i64 k]) ?_ (dC rfl rfl)));rw [de];exact hk
theorem Ou (n:Nat) (hn:6≤n) (b:Bool) {s:List BB} (hs:mD s) {d:au ak} (hd:cB d) :
  ∃(k:Int) (x:BB) (d':au ak),(k,x)∈iT∧cB d'∧T n 128 [pE,.one (lC (.im b) 1 (gM s))] [bx ak d]=some (.agg [iC k,sC x],[bx ak d']):=by
 obtain ⟨m,rfl⟩:=bl 2 n;have hl:ae (gM s).length=(s.length:Int):=by rw [bI];simp [gM]
 by_cases h0:s.length=0
 ·obtain ⟨k,d2,hk,eO,e2⟩:=IG (m+1) (by omega) hd;refine ⟨k,[],d2,hk,eO,OY _ ?_⟩;refine bO (bR (by rw [hl];omega)) ?_;rw [aau];exact pU e2 rfl rfl
 ·have hp:decide (ae (gM s).length > 0)=true:=aX (by rw [hl];omega);obtain ⟨j,d1,hj,cq,e1⟩:=pick (m+1) (by omega) (k:=4) (by omega) (by omega) hd;by_cases h1:j=1
  ·obtain ⟨i,d2,hi,eO,e2⟩:=pick (m+1) (by omega) (k:=s.length) (by omega) (by have:=hs.1;omega) cq;refine ⟨5,s[i],d2,hs.2 _ (bM hi),eO,OY _ ?_⟩;refine dx hp (jC e1 ?_);dsimp only;refine dx (by subst h1;rfl) (jC (b:=(i:Int)) (p:=d2) (by rw [hl];exact e2) ?_);dsimp only;exact gZ (v:=(s[i],())) (r:=[.str s[i]]) rfl (by simp [gM,hi]) (by simp) rfl rfl
  ·obtain ⟨k,d2,hk,eO,e2⟩:=IG (m+1) (by omega) cq;refine ⟨k,[],d2,hk,eO,OY _ ?_⟩;refine dx hp (jC e1 ?_);dsimp only;refine bO (show ((j:Int)==1)=false from oo.2 (by omega)) ?_;rw [aau];exact pU e2 rfl rfl
def mG (q:Nat):BB:=[UInt8.ofNat (119+q % 4)]
theorem Lq (q:Nat):([[.str [119]],[.str [120]],[.str [121]],[.str [122]]]:RR)[q % 4]? = some [.str (mG q)]:=by
 unfold mG;have:q % 4 < 4:=D0 _ (by omega);generalize q % 4=i at this;match i,this with
 | 0,_=>rfl
 | 1,_=>rfl
 | 2,_=>rfl
 | 3,_=>rfl
theorem Lr (q:Nat):mG q∈qA:=by
 unfold mG;have:q % 4 < 4:=D0 _ (by omega);generalize q % 4=i at this;match i,this with
 | 0,_=>decide
 | 1,_=>decide
 | 2,_=>decide
 | 3,_=>decide
theorem aaR {q r:Nat} (h:mG q=mG r):q % 4=r % 4:=by
 unfold mG at h;have h1:q % 4 < 4:=D0 _ (by omega);have h2:r % 4 < 4:=D0 _ (by omega);generalize q % 4=i at *;generalize r % 4=j at *;match i,h1,j,h2 with
 | 0,_,0,_=>rfl
 | 1,_,1,_=>rfl
 | 2,_,2,_=>rfl
 | 3,_,3,_=>rfl
 | 0,_,1,_=>cases h
 | 0,_,2,_=>cases h
 | 0,_,3,_=>cases h
 | 1,_,0,_=>cases h
 | 1,_,2,_=>cases h
 | 1,_,3,_=>cases h
 | 2,_,0,_=>cases h
 | 2,_,1,_=>cases h
 | 2,_,3,_=>cases h
 | 3,_,0,_=>cases h
 | 3,_,1,_=>cases h
 | 3,_,2,_=>cases h
theorem adZ (q:Nat):((q:Int)).tmod 4=((q % 4:Nat):Int):=by
 rw [UX (by omega)];omega
theorem uM (l:RR) (x y:List D):l++[x].set 0 y=l++[y]:=rfl
theorem room {l:RR} {k:Nat} (h:l.length≤1000) (hk:k≤1000):(l.length==l.length&&true&&decide ((l.length+1) * k≤140737488355328))=true:=by
 have:(l.length+1) * k≤1001 * 1000:=Vh (by omega) hk;simp;omega
theorem ab8:∀l:List AM,aV (l.map cM)=l.map cM
 | []=>rfl
 | a::t=>by
  simp only [fY,aV,ab8 t];rfl
theorem VX (m q:Nat) (hm:6≤m) (b:Bool) {s:List BB} (hs:mD s) (P:Nat) (hP:1≤P) (zy:P≤1000) (x3:au ak) (N fr:Nat) (hN:N≤3) (zK:fr < 4) :
  ∀(k i:Nat) (l:List AM) (d:au ak),N - i < k→i≤N→1≤i→l.length=i→(∀a∈l,As P a)→l.map AM.mF=(List.range i).map (fun j=>mG (fr+j))→cB d→
   ∃(l':List AM) (d':au ak),nr P l'∧cB d'∧Kd (T m) q x3 k b (gM s) (P:Int) d (l.map cM) (N:Int) (fr:Int) (i:Int)=some (.one (lC (.im false) 4 (l'.map cM)),[bx ak d'])
 | 0,i,l,d,h,_,_,_,_,_,_=>by omega
 | k+1,i,l,d,h,hi,hi1,hl,aQ,Jt,hd=>by
  by_cases af:i < N
  ·obtain ⟨kd,x,d1,hc,cq,e1⟩:=Ou m (by omega) b hs hd;obtain ⟨j,d2,hj,eO,e2⟩:=pick m (by omega) (k:=P) hP (by omega) cq;obtain ⟨l',d',h1,h2,h3⟩:=VX m q hm b hs P hP zy x3 N fr hN zK k (i+1) (l++[⟨mG (fr+i),kd,x,j⟩]) d2 (by omega) (by omega) (by omega) (by simp [hl])
    (by intro a ha;rw [dA] at ha;rcases ha with ha | ha;exact aQ a ha;simp at ha;subst ha;exact ⟨Lr _,hc,hj⟩)
    (by rw [ev,Jt,Nl,ev];rfl) eO
   refine ⟨l',d',h1,h2,?_⟩;rw [aat];refine dx (aX (by omega)) (yF (Lt m (by omega)) ?_);dsimp only;have hw:ao ((fr:Int)+(i:Int))=((fr+i:Nat):Int):=gF;refine gZ (i:=(fr+i) % 4) (v:=(mG (fr+i),())) (by rw [hw,adZ]) (Lq _) (by simp) rfl ?_;dsimp only;refine pU e1 rfl ?_;dsimp only;refine jC e2 (dC (room (by simp;omega) (by omega)) ?_);dsimp only;rw [uM,wI i];rw [show List.map cM l++[[D.str (mG (fr+i)),D.int .i64 kd,D.str x,D.int .i64 (j:Int)]]=List.map cM (l++[⟨mG (fr+i),kd,x,j⟩]) by simp [cM]];exact h3
  ·obtain rfl:i=N:=by omega
   refine ⟨l,d,⟨by omega,by omega,?_,aQ⟩,hd,?_⟩
   ·rw [Jt];rw [List.nodup_iff_pairwise_ne,List.pairwise_map];refine List.Pairwise.imp_of_mem (R:=fun a b=>a < b) ?_ ae0;intro a c ha hc hac e;have:=aaR e;simp at ha hc;omega
   ·rw [aat];refine bO (bR (by omega)) (dC (aX (by omega)) ?_);rw [dj,ab8]
theorem V0 (n:Nat) (hn:10≤n) (b:Bool) {s:List BB} (hs:mD s) (P:Nat) (hP:1≤P) (zy:P≤1000) {d:au ak} (hd:cB d) :
  ∃(l:List AM) (d':au ak),nr P l∧cB d'∧T n 74 [pE,.one (lC (.im b) 1 (gM s)),.one (iC P)] [bx ak d]=some (.one (lC (.im false) 4 (l.map cM)),[bx ak d']):=by
 obtain ⟨m,rfl⟩:=bl 2 n;obtain ⟨N,d1,hN,cq,e1⟩:=pick (m+1) (by omega) (k:=3) (by omega) (by omega) hd;obtain ⟨fr,d2,zK,eO,e2⟩:=pick (m+1) (by omega) (k:=4) (by omega) (by omega) cq;obtain ⟨kd,x,d3,hc,qk,e3⟩:=Ou (m+1) (by omega) b hs eO;obtain ⟨j,d4,hj,zG,e4⟩:=pick (m+1) (by omega) (k:=P) hP (by omega) qk;obtain ⟨l',d',h1,h2,h3⟩:=VX (m+1) (m+1) (by omega) b hs P hP zy d (N+1) fr (by omega) zK m 1 [⟨mG fr,kd,x,j⟩] d4 (by omega) (by omega) (by omega) rfl
  (by intro a ha;simp at ha;subst ha;exact ⟨Lr _,hc,hj⟩) rfl zG
 refine ⟨l',d',h1,h2,agD _ ?_⟩;refine jC e1 (jC e2 ?_);dsimp only;rw [ak4];rw [show ao (1+(N:Int))=((N+1:Nat):Int) from gF];refine dx (aX (by omega)) (yF (Lt (m+1) (by omega)) ?_);dsimp only;have hw:ao ((fr:Int)+0)=(fr:Int):=gF;refine gZ (i:=fr % 4) (v:=(mG fr,())) (by rw [hw,adZ]) (Lq _) (by simp) rfl ?_;dsimp only;refine pU e3 rfl ?_;dsimp only;refine jC e4 (dC rfl ?_);exact h3
end
section
open Go Go.ax
variable {nm:BB}
def bG (k:Nat):BB:=[UInt8.ofNat (97+k)]
def db (many:Nat):RR:=(List.range many).map fun k=>[.str (bG k)]
structure PT where
 fr:BB
 to:BB
 t:Bool
 ms:List AM
def cP (p:PT):List D:=[.str p.fr,.str p.to,.sl (.im p.t) 4 (p.ms.map cM)]
theorem Mk:∀a:PT,2+1≤(cP a).length∧eb [DS.im 4] (List.take 1 (List.drop 2 (cP a)))=some ((fun p=>((p.t,p.ms.map cM),())) a):=(fun a=>⟨by simp [cP],rfl⟩)
theorem Dr:∀a:PT,0+3≤(cP a).length∧eb lg (List.take 3 (List.drop 0 (cP a)))=some ((fun p=>(p.fr,p.to,(p.t,p.ms.map cM),())) a):=(fun a=>⟨by simp [cP],rfl⟩)
def rD (P many:Nat) (p:PT):Prop:=(p.fr=[]∧p.to=[]∧p.ms=[])∨∃k m,k < many∧m < many∧k≠m∧p.fr=bG k∧p.to=bG m∧nr P p.ms
def kW (many:Nat) (ps:List PT):Prop:=2≤many∧many≤4∧1≤ps.length∧ps.length≤8∧∀p∈ps,rD ps.length many p
theorem aca:∀l:List PT,aV (l.map cP)=l.map cP
 | []=>rfl
 | a::t=>by
  simp only [fY,aV,aca t];rfl
theorem SS:∀l:List BB,aV (l.map fun s=>[.str s])=l.map fun s=>[D.str s]
 | []=>rfl
 | a::t=>by
  simp only [fY,aV,SS t];rfl
theorem aoG (many:Nat):aV (db many)=db many:=by
 have:=SS ((List.range many).map bG);rw [U'] at this;exact this
theorem pQ (many:Nat):(db many).length=many:=by simp [db]
theorem apb {many:Nat} (h:many≠0):db many≠[]:=by
 intro e;have:=fU List.length e;rw [pQ] at this;exact h this
theorem nZ {many k:Nat} (h:k < many):(db many)[k]? = some [.str (bG k)]:=by simp [db,h]
theorem g1 {r:RR} (h:r≠[]):(r.length==r.length && !r.isEmpty)=true:=by
 cases r with
 | nil=>exact absurd rfl h
 | cons=>simp
theorem g2 (r:RR):decide (0+r.length≤r.length)=true:=by simp
theorem ad0 {q k:Nat}:((q:Int)).tmod (k:Int)=((q % k:Nat):Int):=by
 rw [UX (by omega)];omega
def kB (r:RR):Tag×RR:=(match r with | []=>.im true | _=>.own,r)
theorem ML (r:RR) (x:List D):kB (r++[x])=(.own,r++[x]):=by
 cases r<;>rfl
theorem VJ (m q:Nat) (hm:10≤m) (b:Bool) {s:List BB} (hs:mD s) (many N:Nat) (h2:2≤many) (h4:many≤4) (hN:N≤6) (Ja:1≤N) (x4:au ak) (z:au nB) :
  ∀(k i:Nat) (ps:List PT) (d:au ak),N - i < k→i≤N→ps.length=i→(∀p∈ps,rD (N+1) many p)→cB d→
   ∃(Mb:List PT) (d':au ak),kW many Mb∧cB d'∧Kc (T m) q x4 k (many:Int) b (gM s) d z (N:Int) (nm,(.own,db many),kB (ps.map cP),()) (i:Int) =
    some (.agg [sC nm,lC (.im false) 1 (db many),lC (.im false) 3 (Mb.map cP)],[bx ak d'])
 | 0,i,ps,d,h,_,_,_,_=>by omega
 | k+1,i,ps,d,h,hi,hl,aQ,hd=>by
  have hz:(!decide ((many:Int)=0))=true:=by simp;omega
  by_cases af:i < N
  ·obtain ⟨j,d1,hj,cq,e1⟩:=pick m (by omega) (k:=many) (by omega) (by omega) hd;obtain ⟨j2,d2,lu,eO,e2⟩:=pick m (by omega) (k:=many - 1) (by omega) (by omega) cq;obtain ⟨ms,d3,xA,qk,e3⟩:=V0 m (by omega) b hs (N+1) (by omega) (by omega) eO;have Fv:(j+1+j2) % many < many:=D0 _ (by omega);have aA:j≠(j+1+j2) % many:=by
    intro e;by_cases hq:j+1+j2 < many
    ·rw [HM hq] at e;omega
    ·rw [Nat.mod_eq_sub_mod (by omega),HM (by omega)] at e;omega
   obtain ⟨Mb,d',ml,sy,g3⟩:=VJ m q hm b hs many N h2 h4 hN Ja x4 z k (i+1) (ps++[⟨bG j,bG ((j+1+j2) % many),false,ms⟩]) d3 (by omega) (by omega) (by simp [hl])
    (by intro a ha;rw [dA] at ha;rcases ha with ha | ha;exact aQ a ha;simp at ha;subst ha;exact .inr ⟨j,_,hj,Fv,aA,rfl,rfl,xA⟩) qk
   refine ⟨Mb,d',ml,sy,?_⟩;rw [ev,show List.map cP [⟨bG j,bG ((j+1+j2) % many),false,ms⟩]=[cP ⟨bG j,bG ((j+1+j2) % many),false,ms⟩] from rfl,ML] at g3;rw [aar];refine dx (aX (by omega)) (jC e1 ?_);dsimp only;rw [show ao ((many:Int) - 1)=((many - 1:Nat):Int) from gF];refine jC e2 (dC hz ?_);dsimp only;have hw:ao (ao ((j:Int)+1)+(j2:Int))=((j+1+j2:Nat):Int):=by rw [wI j];exact gF
   have hx:(ao (ao ((j:Int)+1)+(j2:Int))).tmod (many:Int)=(((j+1+j2) % many:Nat):Int):=by rw [hw,ad0]
   have mC:=wI N;have vP:=wI i;cases ps with
   | nil=>
    refine rR (lh (sO (v:=(bG j,())) rfl (nZ hj) (by simp) rfl ?_));dsimp only;refine sO (v:=(bG ((j+1+j2) % many),())) hx (nZ Fv) (by simp) rfl ?_;dsimp only;rw [mC];refine MS e3 (dC rfl ?_);dsimp only;rw [vP];exact g3
   | cons p ps=>
    refine lh (lh (sO (v:=(bG j,())) rfl (nZ hj) (by simp) rfl ?_));dsimp only;refine sO (v:=(bG ((j+1+j2) % many),())) hx (nZ Fv) (by simp) rfl ?_;dsimp only;rw [mC];refine MS e3 (dC (room (by simp only [kB,cf];omega) (by omega)) ?_);dsimp only;rw [vP];exact g3
  ·obtain rfl:i=N:=by omega
   refine ⟨ps++[⟨[],[],true,[]⟩],d,⟨h2,h4,by simp,by simp;omega,?_⟩,hd,?_⟩
   ·intro p hp;rw [dA] at hp;rcases hp with hp | hp
    ·rw [dL,hl];exact aQ p hp
    ·simp at hp;subst hp;exact .inl ⟨rfl,rfl,rfl⟩
   ·rw [aar];refine bO (bR (by omega)) ?_;cases ps with
    | nil=>simp at hl;omega
    | cons p ps=>
     refine lh (dC (room (by simp only [kB,cf];omega) (by omega)) (lh (dC (g1 (apb (by omega))) (dC (g1 (by simp [kB])) (dC (g2 _) (dC (g2 _) ?_))))));simp only [zB,zW,zM,dj,aoG];rw [uM,show ([D.str [],D.str [],D.sl (.im true) 4 []]:List D)=cP ⟨[],[],true,[]⟩ from rfl];rw [show (kB (List.map cP (p::ps))).2++[cP ⟨[],[],true,[]⟩]=List.map cP (p::ps++[⟨[],[],true,[]⟩]) by simp [kB],aca]
theorem adX {many:Nat} (h2:2≤many) (h4:many≤4):List.take (many - 0) (List.drop 0 ([[.str [97]],[.str [98]],[.str [99]],[.str [100]],[.str [101]]]:RR))=db many:=by
 match many,h2,h4 with
 | 2,_,_=>rfl
 | 3,_,_=>rfl
 | 4,_,_=>rfl
theorem NK (n:Nat) (hn:20≤n) (b:Bool) {s:List BB} (hs:mD s) (many:Nat) (h2:2≤many) (h4:many≤4) {d:au ak} (hd:cB d) :
  ∃(ps:List PT) (d':au ak),kW many ps∧cB d'∧T n 138 [pE,.one (sC nm),.one (iC many),.one (lC (.im b) 1 (gM s))] [bx ak d] =
   some (.agg [sC nm,lC (.im false) 1 (db many),lC (.im false) 3 (ps.map cP)],[bx ak d']):=by
 obtain ⟨m,rfl⟩:=bl 2 n;obtain ⟨N,d1,hN,cq,e1⟩:=pick (m+1) (by omega) (k:=6) (by omega) (by omega) hd;obtain ⟨ps,d',g1,g2,g3⟩:=VJ (nm:=nm) (m+1) (m+1) (by omega) b hs many (N+1) h2 h4 (by omega) (by omega) d ([],((.im true),[]),((.im true),[]),()) (m+1) 0 [] d1 (by omega) (by omega) rfl (by intro p hp;cases hp) cq;refine ⟨ps,d',g1,g2,agC _ ?_⟩;refine jC e1 (yF (Mt (m+1) (by omega)) (qo (Ia _) ?_));dsimp only;rw [adX h2 h4];have hl:=pQ many;refine dC (aX (by simp;omega)) (dC ?_ (bO ?_ ?_))
 ·rw [hl];match many,h2,h4 with
  | 2,_,_=>rfl
  | 3,_,_=>rfl
  | 4,_,_=>rfl
 ·match many,h2,h4 with
  | 2,_,_=>rfl
  | 3,_,_=>rfl
  | 4,_,_=>rfl
 ·rw [ak3,show ao (1+(N:Int))=((N+1:Nat):Int) from gF];exact g3
end
section
open Go Go.ax
variable {nm:BB}
theorem aog {P:Nat} {a:AM} (h:As P a):nr P [a]:=⟨by simp,by simp,by simp,fun x hx=>by simp at hx;subst hx;exact h⟩
theorem aoh {P:Nat} {a b:AM} (h:As P a) (h':As P b) (hn:a.mF≠b.mF):nr P [a,b]:=
 ⟨by simp,by simp,by simpa using hn,fun x hx=>by simp at hx;rcases hx with rfl | rfl;exact h;exact h'⟩
def sA (i:Nat) (go:BB) (k:Int) (x:BB) (nx:Nat):List D:=[.str (bG i),.str (bG (i+1)),.sl .own 4 [[.str go,.int .i64 k,.str x,.int .i64 (nx:Int)]]]
section
variable {m q:Nat} {b:Bool} {s:List BB} {x4:au ak} {z:au nB} {go dK:BB}
theorem Tc (hm:10≤m) (hs:mD s) {M i:Nat} (hM:M≤4) (back:Bool) (hi:i+1 < M) {P:RR} (hP:P.length≤20) {d:au ak} (hd:cB d) :
  ∃(kd:Int) (x:BB) (d':au ak),(kd,x)∈iT∧cB d'∧∀k,ux (T m) q x4 (k+1) (M:Int) b (gM s) d z (nm,(.own,db M),(.own,P),()) go dK back (i:Int) =
   ux (T m) q x4 k (M:Int) b (gM s) d' z (nm,(.own,db M),(.own,P++[sA i go kd x (P.length+1)]),()) go dK back ((i+1:Nat):Int):=by
 obtain ⟨kd,x,d',hc,dy,e⟩:=Ou m (by omega) b hs hd;refine ⟨kd,x,d',hc,dy,fun k=>?_⟩;have hw:=wI i;have mC:ao (ae P.length+1)=((P.length+1:Nat):Int):=gF (by rw [bI];omega) (by omega);rw [aav,hw];refine dx (aX (by omega)) (lh (lh (sO (v:=(bG i,())) rfl (nZ (by omega)) (by simp) rfl ?_)));dsimp only;refine sO (v:=(bG (i+1),())) rfl (nZ (by omega)) (by simp) rfl ?_;dsimp only;refine pU e rfl (dC (room (by omega) (by omega)) ?_);dsimp only;rw [mC];rfl
theorem Tb (hm:10≤m) {M i:Nat} (hM:M≤4) (h2:2≤M) (hi:i+1=M) {P:RR} (hP:P.length≤20) {d:au ak} (hd:cB d) :
  ∃(kd:Int) (d':au ak),(kd,[])∈iT∧cB d'∧∀k,ux (T m) q x4 (k+1) (M:Int) b (gM s) d z (nm,(.own,db M),(.own,P),()) go dK true (i:Int) =
   Ad (T m) q x4 q (M:Int) d' z (nm,(.own,db M),(.own,P++[[.str (bG (M - 1)),.str (bG 0),.sl .own 4 [[.str [111,107],.int .i64 kd,.str [],.int .i64 0]]]]),()) dK:=by
 obtain ⟨kd,d',hc,dy,e⟩:=IG m (by omega) hd;refine ⟨kd,d',hc,dy,fun k=>?_⟩;have hw:=wI i;have mC:ao ((M:Int) - 1)=((M - 1:Nat):Int):=gF;rw [aav,hw,mC];refine bO (bR (by omega)) (dx rfl (lh (lh (sO (v:=(bG (M - 1),())) rfl (nZ (by omega)) (by simp) rfl ?_))));dsimp only;have hr:=nZ (many:=M) (k:=0) (by omega);refine dC (aX (by rw [pQ];show 0 < M;omega)) (qo (b:=[.str (bG 0)]) (by simpa using hr) (dC rfl ?_));show aG _ _ _=_;refine pU e rfl (dC (room (by omega) (by omega)) ?_);rfl
abbrev uG (nm:BB) (M:Nat) (ps:List PT):V:=.agg [sC nm,lC (.im false) 1 (db M),lC (.im false) 3 (ps.map cP)]
abbrev pp (i j:Nat) (ms:List AM):PT:=⟨bG i,bG j,false,ms⟩
abbrev zk:PT:=⟨[],[],true,[]⟩
abbrev qK (go dK:BB) (k:Int):List D:=[.str (bG 0),.str (bG 1),.sl .own 4 [[.str go,.int .i64 k,.str [],.int .i64 1],[.str dK,.int .i64 0,.str [],.int .i64 0]]]
theorem t2b (k1 k2:Int) (d:au ak):Ad (T m) (q+20) x4 (q+20) 2 d z (nm,(.own,db 2),(.own,[qK go dK k1]++[[.str (bG (2 - 1)),.str (bG 0),.sl .own 4 [[.str [111,107],.int .i64 k2,.str [],.int .i64 0]]]]),()) dK =
 some (uG nm 2 [pp 0 1 [⟨go,k1,[],1⟩,⟨dK,0,[],2⟩],pp 1 0 [⟨[111,107],k2,[],0⟩],zk],[bx ak d]):=by kernel_rfl
theorem t2n (k1:Int) (d:au ak):ux (T m) (q+20) x4 (q+20) 2 b (gM s) d z (nm,(.own,db 2),(.own,[qK go dK k1]),()) go dK false 1 =
 some (uG nm 2 [pp 0 1 [⟨go,k1,[],0⟩,⟨dK,0,[],1⟩],zk],[bx ak d]):=by kernel_rfl
theorem t3b (k1 k2 k3:Int) (x:BB) (d:au ak):Ad (T m) (q+20) x4 (q+20) 3 d z (nm,(.own,db 3),(.own,([qK go dK k1]++[sA 1 go k2 x 2])++[[.str (bG (3 - 1)),.str (bG 0),.sl .own 4 [[.str [111,107],.int .i64 k3,.str [],.int .i64 0]]]]),()) dK =
 some (uG nm 3 [pp 0 1 [⟨go,k1,[],1⟩,⟨dK,0,[],3⟩],pp 1 2 [⟨go,k2,x,2⟩],pp 2 0 [⟨[111,107],k3,[],0⟩],pp 1 2 [⟨dK,0,[],4⟩],zk],[bx ak d]):=by kernel_rfl
theorem t3n (k1 k2:Int) (x:BB) (d:au ak):ux (T m) (q+20) x4 (q+19) 3 b (gM s) d z (nm,(.own,db 3),(.own,[qK go dK k1]++[sA 1 go k2 x 2]),()) go dK false 2 =
 some (uG nm 3 [pp 0 1 [⟨go,k1,[],1⟩,⟨dK,0,[],2⟩],pp 1 2 [⟨go,k2,x,0⟩],pp 1 2 [⟨dK,0,[],3⟩],zk],[bx ak d]):=by kernel_rfl
theorem t4b (k1 k2 k3 k4:Int) (x y:BB) (d:au ak):Ad (T m) (q+20) x4 (q+20) 4 d z (nm,(.own,db 4),(.own,(([qK go dK k1]++[sA 1 go k2 x 2])++[sA 2 go k3 y 3])++[[.str (bG (4 - 1)),.str (bG 0),.sl .own 4 [[.str [111,107],.int .i64 k4,.str [],.int .i64 0]]]]),()) dK =
 some (uG nm 4 [pp 0 1 [⟨go,k1,[],1⟩,⟨dK,0,[],4⟩],pp 1 2 [⟨go,k2,x,2⟩],pp 2 3 [⟨go,k3,y,3⟩],pp 3 0 [⟨[111,107],k4,[],0⟩],pp 1 2 [⟨dK,0,[],5⟩],pp 2 3 [⟨dK,0,[],6⟩],zk],[bx ak d]):=by kernel_rfl
theorem t4n (k1 k2 k3:Int) (x y:BB) (d:au ak):ux (T m) (q+20) x4 (q+18) 4 b (gM s) d z (nm,(.own,db 4),(.own,([qK go dK k1]++[sA 1 go k2 x 2])++[sA 2 go k3 y 3]),()) go dK false 3 =
 some (uG nm 4 [pp 0 1 [⟨go,k1,[],1⟩,⟨dK,0,[],3⟩],pp 1 2 [⟨go,k2,x,2⟩],pp 2 3 [⟨go,k3,y,0⟩],pp 1 2 [⟨dK,0,[],4⟩],pp 2 3 [⟨dK,0,[],5⟩],zk],[bx ak d]):=by kernel_rfl
end
theorem apd (m q:Nat) (hm:10≤m) (b:Bool) {s:List BB} (hs:mD s) {M:Nat} (h2:2≤M) (h4:M≤4) (x4:au ak) (z:au nB) {go dK:BB} (hg:go∈qA) (hq:dK∈qA) (aA:go≠dK) (back:Bool) {k1:Int} (hk:(k1,[])∈iT) {d:au ak} (hd:cB d) :
  ∃(ps:List PT) (d':au ak),kW M ps∧cB d'∧ux (T m) (q+20) x4 (q+20) (M:Int) b (gM s) d z (nm,(.own,db M),(.own,[qK go dK k1]),()) go dK back 1=some (uG nm M ps,[bx ak d']):=by
 have h0:((0:Int),([]:BB))∈iT:=by decide
 have aQ:[111,107]∈qA:=by decide
 have yd:∀{P i j a c x} {k:Int},i < M→j < M→i≠j→(k,x)∈iT→a < P→c < P→rD P M (pp i j [⟨go,k,x,a⟩,⟨dK,0,[],c⟩]):=fun h1 h2 h3 h4 h5 h6=>.inr ⟨_,_,h1,h2,h3,rfl,rfl,aoh ⟨hg,h4,h5⟩ ⟨hq,h0,h6⟩ aA⟩
 have l8:∀{P i j a l x} {k:Int},i < M→j < M→i≠j→l∈qA→(k,x)∈iT→a < P→rD P M (pp i j [⟨l,k,x,a⟩]):=fun h1 h2 h3 h4 h5 h6=>.inr ⟨_,_,h1,h2,h3,rfl,rfl,aog ⟨h4,h5,h6⟩⟩
 have Dg:∀{P},rD P M zk:=.inl ⟨rfl,rfl,rfl⟩;match M,h2,h4 with
 | 2,_,_=>
  cases back with
  | true=>
   obtain ⟨k2,d',hc,dy,e⟩:=Tb (q:=q+20) (b:=b) (s:=s) (x4:=x4) (z:=z) (go:=go) (dK:=dK) hm (M:=2) (i:=1) (by omega) (by omega) rfl (P:=[qK go dK k1]) (by simp) hd;refine ⟨_,d',⟨by omega,by omega,?_,?_,?_⟩,dy,(e (q+19)).trans (t2b k1 k2 d')⟩
   ·simp
   ·simp
   ·intro p hp;simp only [gU,nK,nL] at hp;rcases hp with rfl | rfl | rfl
    ·exact yd (by omega) (by omega) (by omega) hk (by simp) (by simp)
    ·exact l8 (by omega) (by omega) (by omega) aQ hc (by simp)
    ·exact Dg
  | false=>
   refine ⟨_,d,⟨by omega,by omega,?_,?_,?_⟩,hd,t2n k1 d⟩
   ·simp
   ·simp
   ·intro p hp;simp only [gU,nK,nL] at hp;rcases hp with rfl | rfl
    ·exact yd (by omega) (by omega) (by omega) hk (by simp) (by simp)
    ·exact Dg
 | 3,_,_=>
  obtain ⟨k2,x,d1,dH,cq,e1⟩:=Tc (q:=q+20) (b:=b) (s:=s) (x4:=x4) (z:=z) (go:=go) (dK:=dK) hm hs (M:=3) (i:=1) (by omega) back (by omega) (P:=[qK go dK k1]) (by simp) hd;cases back with
  | true=>
   obtain ⟨k3,d',hc,dy,e⟩:=Tb (q:=q+20) (b:=b) (s:=s) (x4:=x4) (z:=z) (go:=go) (dK:=dK) hm (M:=3) (i:=2) (by omega) (by omega) rfl (P:=[qK go dK k1]++[sA 1 go k2 x 2]) (by simp) cq;refine ⟨_,d',⟨by omega,by omega,?_,?_,?_⟩,dy,(e1 (q+19)).trans ((e (q+18)).trans (t3b k1 k2 k3 x d'))⟩
   ·simp
   ·simp
   ·intro p hp;simp only [gU,nK,nL] at hp;rcases hp with rfl | rfl | rfl | rfl | rfl
    ·exact yd (by omega) (by omega) (by omega) hk (by simp) (by simp)
    ·exact l8 (by omega) (by omega) (by omega) hg dH (by simp)
    ·exact l8 (by omega) (by omega) (by omega) aQ hc (by simp)
    ·exact l8 (by omega) (by omega) (by omega) hq h0 (by simp)
    ·exact Dg
  | false=>
   refine ⟨_,d1,⟨by omega,by omega,?_,?_,?_⟩,cq,(e1 (q+19)).trans (t3n k1 k2 x d1)⟩
   ·simp
   ·simp
   ·intro p hp;simp only [gU,nK,nL] at hp;rcases hp with rfl | rfl | rfl | rfl
    ·exact yd (by omega) (by omega) (by omega) hk (by simp) (by simp)
    ·exact l8 (by omega) (by omega) (by omega) hg dH (by simp)
    ·exact l8 (by omega) (by omega) (by omega) hq h0 (by simp)
    ·exact Dg
 | 4,_,_=>
  obtain ⟨k2,x,d1,dH,cq,e1⟩:=Tc (q:=q+20) (b:=b) (s:=s) (x4:=x4) (z:=z) (go:=go) (dK:=dK) hm hs (M:=4) (i:=1) (by omega) back (by omega) (P:=[qK go dK k1]) (by simp) hd;obtain ⟨k3,y,d2,gB,eO,e2⟩:=Tc (q:=q+20) (b:=b) (s:=s) (x4:=x4) (z:=z) (go:=go) (dK:=dK) hm hs (M:=4) (i:=2) (by omega) back (by omega) (P:=[qK go dK k1]++[sA 1 go k2 x 2]) (by simp) cq;cases back with
  | true=>
   obtain ⟨k4,d',hc,dy,e⟩:=Tb (q:=q+20) (b:=b) (s:=s) (x4:=x4) (z:=z) (go:=go) (dK:=dK) hm (M:=4) (i:=3) (by omega) (by omega) rfl (P:=([qK go dK k1]++[sA 1 go k2 x 2])++[sA 2 go k3 y 3]) (by simp) eO;refine ⟨_,d',⟨by omega,by omega,?_,?_,?_⟩,dy,(e1 (q+19)).trans ((e2 (q+18)).trans ((e (q+17)).trans (t4b k1 k2 k3 k4 x y d')))⟩
   ·simp
   ·simp
   ·intro p hp;simp only [gU,nK,nL] at hp;rcases hp with rfl | rfl | rfl | rfl | rfl | rfl | rfl
    ·exact yd (by omega) (by omega) (by omega) hk (by simp) (by simp)
    ·exact l8 (by omega) (by omega) (by omega) hg dH (by simp)
    ·exact l8 (by omega) (by omega) (by omega) hg gB (by simp)
    ·exact l8 (by omega) (by omega) (by omega) aQ hc (by simp)
    ·exact l8 (by omega) (by omega) (by omega) hq h0 (by simp)
    ·exact l8 (by omega) (by omega) (by omega) hq h0 (by simp)
    ·exact Dg
  | false=>
   refine ⟨_,d2,⟨by omega,by omega,?_,?_,?_⟩,eO,(e1 (q+19)).trans ((e2 (q+18)).trans (t4n k1 k2 k3 x y d2))⟩
   ·simp
   ·simp
   ·intro p hp;simp only [gU,nK,nL] at hp;rcases hp with rfl | rfl | rfl | rfl | rfl | rfl
    ·exact yd (by omega) (by omega) (by omega) hk (by simp) (by simp)
    ·exact l8 (by omega) (by omega) (by omega) hg dH (by simp)
    ·exact l8 (by omega) (by omega) (by omega) hg gB (by simp)
    ·exact l8 (by omega) (by omega) (by omega) hq h0 (by simp)
    ·exact l8 (by omega) (by omega) (by omega) hq h0 (by simp)
    ·exact Dg
theorem acW (n:Nat) (hn:40≤n) (b:Bool) {s:List BB} (hs:mD s) {M:Nat} (h2:2≤M) (h4:M≤4) {d:au ak} (hd:cB d) :
  ∃(ps:List PT) (d':au ak),kW M ps∧cB d'∧T n 188 [pE,.one (sC nm),.one (iC M),.one (lC (.im b) 1 (gM s))] [bx ak d]=some (uG nm M ps,[bx ak d']):=by
 obtain ⟨q,rfl⟩:∃q,n=q+20+1:=⟨n - 21,by omega⟩
 obtain ⟨j1,d1,xw,cq,e1⟩:=pick (q+20) (by omega) (k:=2) (by omega) (by omega) hd;obtain ⟨j2,d2,lu,eO,e2⟩:=pick (q+20) (by omega) (k:=2) (by omega) (by omega) cq;obtain ⟨j3,d3,hj3,qk,e3⟩:=pick (q+20) (by omega) (k:=2) (by omega) (by omega) eO;obtain ⟨k1,d4,hk,zG,e4⟩:=IG (q+20) (by omega) qk;have aA:mG j1≠mG (2+j2):=fun h=>by have:=aaR h;omega
 obtain ⟨ps,d',ml,sy,g3⟩:=apd (nm:=nm) (q+20) q (by omega) b hs h2 h4 d ([],((.im true),[]),((.im true),[]),()) (Lr j1) (Lr (2+j2)) aA ((j3:Int)==1) hk zG;refine ⟨ps,d',ml,sy,agT _ ?_⟩;refine yF (Mt (q+20) (by omega)) (qo (Ia _) ?_);dsimp only;rw [adX h2 h4];have hl:=pQ M;refine dC (aX (by simp;omega)) (dC ?_ (bO ?_ ?_))
 ·rw [hl];match M,h2,h4 with
  | 2,_,_=>rfl
  | 3,_,_=>rfl
  | 4,_,_=>rfl
 ·match M,h2,h4 with
  | 2,_,_=>rfl
  | 3,_,_=>rfl
  | 4,_,_=>rfl
 ·rw [alf];refine yF (Lt (q+20) (by omega)) (jC e1 ?_);dsimp only;have l1:=Lq j1;rw [HM (by omega)] at l1;refine gZ (v:=(mG j1,())) rfl l1 (by simp) rfl ?_;dsimp only;refine yF (Lt (q+20) (by omega)) (jC e2 ?_);dsimp only;have l2:=Lq (2+j2);rw [HM (by omega)] at l2;refine gZ (i:=2+j2) (v:=(mG (2+j2),())) (gF) l2 (by simp) rfl ?_;dsimp only;refine jC e3 (pU e4 rfl (rR (lh ?_)));dsimp only;have uo:=nZ (many:=M) (k:=0) (by omega);have jX:=nZ (many:=M) (k:=1) (by omega);refine dC (aX (by rw [pQ];show 0 < M;omega)) (qo (b:=[.str (bG 0)]) (by simpa using uo) (dC rfl ?_));show gd _ _=_;refine dC (aX (by rw [pQ];show 1 < M;omega)) (qo (b:=[.str (bG 1)]) (by simpa using jX) (dC rfl ?_));show gd _ _=_;refine dC rfl ?_;rw [ale];exact g3
theorem aoP (n:Nat) (hn:50≤n) (b:Bool) {s:List BB} (hs:mD s) {d:au ak} (hd:cB d) :
  ∃(M:Nat) (ps:List PT) (d':au ak),kW M ps∧cB d'∧T n 137 [pE,.one (sC nm),.one (lC (.im b) 1 (gM s))] [bx ak d]=some (uG nm M ps,[bx ak d']):=by
 obtain ⟨m,rfl⟩:=bl 1 n;obtain ⟨j,d1,hj,cq,e1⟩:=pick m (by omega) (k:=4) (by omega) (by omega) hd;have ue:∀ps:List PT,∀M:Nat,oA (.agg dW) (uG nm M ps)=some (nm,(false,db M),(false,ps.map cP),()):=fun ps M=>rfl
 match j,hj with
 | 0,_=>
  obtain ⟨ps,d',h1,h2,e⟩:=NK (nm:=nm) m (by omega) b hs 2 (by omega) (by omega) cq;exact ⟨2,ps,d',h1,h2,IJ _ (jC e1 (dx rfl (pU e (ue ps 2) rfl)))⟩
 | 1,_=>
  obtain ⟨i,d2,hi,eO,e2⟩:=pick m (by omega) (k:=3) (by omega) (by omega) cq;obtain ⟨ps,d',h1,h2,e⟩:=acW (nm:=nm) m (by omega) b hs (M:=i+2) (by omega) (by omega) eO;refine ⟨i+2,ps,d',h1,h2,IJ _ (jC e1 (bO rfl (dx rfl (jC e2 ?_))))⟩;dsimp only;rw [show ao (2+(i:Int))=((i+2:Nat):Int) from gF];exact pU e (ue ps (i+2)) rfl
 | 2,_=>
  obtain ⟨ps,d',h1,h2,e⟩:=NK (nm:=nm) m (by omega) b hs 3 (by omega) (by omega) cq;exact ⟨3,ps,d',h1,h2,IJ _ (jC e1 (bO rfl (bO rfl (dx rfl (pU e (ue ps 3) rfl)))))⟩
 | 3,_=>
  obtain ⟨ps,d',h1,h2,e⟩:=acW (nm:=nm) m (by omega) b hs (M:=3) (by omega) (by omega) cq;exact ⟨3,ps,d',h1,h2,IJ _ (jC e1 (bO rfl (bO rfl (bO rfl (pU e (ue ps 3) rfl)))))⟩
structure TN where
 kd:Int
 pr:BB
 t:Bool
 ms:List AM
def cN (p:TN):List D:=[.int .i64 p.kd,.str p.pr,.sl (.im p.t) 4 (p.ms.map cM)]
theorem Tk:∀a:TN,0+3≤(cN a).length∧eb jB (List.take 3 (List.drop 0 (cN a)))=some ((fun t=>(t.kd,t.pr,(t.t,t.ms.map cM),())) a):=(fun a=>⟨by simp [cN],rfl⟩)
def At (P:Nat) (p:TN):Prop:=(p.kd=0∧p.pr=[]∧p.ms=[])∨((p.kd=1∨p.kd=2)∧(∃k,k < 2∧p.pr=bG k)∧nr P p.ms)
def uD (ts:List TN):Prop:=1≤ts.length∧ts.length≤6∧∀p∈ts,At ts.length p
theorem L9:∀l:List TN,aV (l.map cN)=l.map cN
 | []=>rfl
 | a::t=>by
  simp only [fY,aV,L9 t];rfl
theorem RQ (m q:Nat) (hm:10≤m) (b:Bool) {s:List BB} (hs:mD s) (N pe:Nat) (hN:N≤6) (Ja:1≤N) (hp:1≤pe) (vI:pe≤2) (x3:au ak) (z:au uN) :
  ∀(k i:Nat) (ts:List TN) (d:au ak),N - i < k→i≤N→ts.length=i→(∀p∈ts,At N p)→cB d→
   ∃(DO:List TN) (d':au ak),uD DO∧cB d'∧J9 (T m) (q+1) x3 k b (gM s) d z (N:Int) (pe:Int) ([122,122],kB (ts.map cN),()) (i:Int) =
    some (.agg [sC [122,122],lC (.im false) 3 (DO.map cN)],[bx ak d'])
 | 0,i,ts,d,h,_,_,_,_=>by omega
 | k+1,i,ts,d,h,hi,hl,aQ,hd=>by
  by_cases af:i < N
  ·have vP:=wI i;obtain ⟨j,d1,hj,cq,e1⟩:=pick m (by omega) (k:=5) (by omega) (by omega) hd;by_cases Cd:j=0
   ·obtain ⟨DO,d',ml,sy,g3⟩:=RQ m q hm b hs N pe hN Ja hp vI x3 z k (i+1) (ts++[⟨0,[],true,[]⟩]) d1 (by omega) (by omega) (by simp [hl])
     (by intro a ha;rw [dA] at ha;rcases ha with ha | ha;exact aQ a ha;simp at ha;subst ha;exact .inl ⟨rfl,rfl,rfl⟩) cq
    refine ⟨DO,d',ml,sy,?_⟩;rw [ev,show List.map cN [⟨0,[],true,[]⟩]=[cN ⟨0,[],true,[]⟩] from rfl,ML] at g3;rw [Rq];refine dx (aX (by omega)) (jC e1 (dx (show ((j:Int)==0)=true by subst Cd;rfl) ?_));cases ts with
    | nil=>
     refine rR (dC rfl ?_);rw [J',vP];exact g3
    | cons p ts=>
     refine lh (dC (room (by simp only [kB,cf];omega) (by omega)) ?_);rw [J',vP];exact g3
   ·obtain ⟨i2,d2,Qo,eO,e2⟩:=pick m (by omega) (k:=pe) hp (by omega) cq;obtain ⟨ms,d3,xA,qk,e3⟩:=V0 m (by omega) b hs N (by omega) (by omega) eO;have hk:ao (1+Int.tmod (j:Int) 2)=((1+j % 2:Nat):Int):=by
     rw [show (2:Int)=((2:Nat):Int) from rfl,ad0];exact gF
    have ZI:([[.str [97]],[.str [98]],[.str [99]],[.str [100]],[.str [101]]]:RR)[i2]? = some [.str (bG i2)]:=by
     have:i2 < 2:=by omega
     match i2,this with
     | 0,_=>rfl
     | 1,_=>rfl
    obtain ⟨DO,d',ml,sy,g3⟩:=RQ m q hm b hs N pe hN Ja hp vI x3 z k (i+1) (ts++[⟨((1+j % 2:Nat):Int),bG i2,false,ms⟩]) d3 (by omega) (by omega) (by simp [hl])
     (by
       intro a ha
       rw [dA] at ha
       rcases ha with ha | ha
       · exact aQ a ha
       · simp at ha; subst ha; exact .inr ⟨by simp only; omega, ⟨i2, by omega, rfl⟩, xA⟩) qk
    refine ⟨DO,d',ml,sy,?_⟩;rw [ev,show List.map cN [⟨((1+j % 2:Nat):Int),bG i2,false,ms⟩]=[cN ⟨((1+j % 2:Nat):Int),bG i2,false,ms⟩] from rfl,ML] at g3;rw [Rq];refine dx (aX (by omega)) (jC e1 (bO (show ((j:Int)==0)=false from oo.2 (by omega)) ?_));cases ts with
    | nil=>
     refine rR (yF (Mt m (by omega)) (jC e2 (gZ (v:=(bG i2,())) rfl ZI (by simp) rfl ?_)));dsimp only;refine MS e3 (dC rfl ?_);dsimp only;rw [J',vP,hk];exact g3
    | cons p ts=>
     refine lh (yF (Mt m (by omega)) (jC e2 (gZ (v:=(bG i2,())) rfl ZI (by simp) rfl ?_)));dsimp only;refine MS e3 (dC (room (by simp only [kB,cf];omega) (by omega)) ?_);dsimp only;rw [J',vP,hk];exact g3
  ·obtain rfl:i=N:=by omega
   refine ⟨ts,d,⟨by omega,by omega,?_⟩,hd,?_⟩
   ·rw [hl];exact aQ
   ·rw [Rq];refine bO (bR (by omega)) ?_;cases ts with
    | nil=>simp at hl;omega
    | cons p ts=>
     refine lh (dC (g1 (by simp [kB])) (dC (g2 _) ?_));simp only [zB,zW,zM,dj,kB];rw [L9]
theorem anT (n:Nat) (hn:40≤n) (b:Bool) {s:List BB} (hs:mD s) {d:au ak} (hd:cB d) :
  ∃(ts:List TN) (d':au ak),uD ts∧cB d'∧T n 27 [pE,.one (sC [122,122]),.one (lC (.im b) 1 (gM s))] [bx ak d]=some (.agg [sC [122,122],lC (.im false) 3 (ts.map cN)],[bx ak d']):=by
 obtain ⟨m,rfl⟩:=bl 2 n;obtain ⟨N,d1,hN,cq,e1⟩:=pick (m+1) (by omega) (k:=6) (by omega) (by omega) hd;obtain ⟨pe,d2,xC,eO,e2⟩:=pick (m+1) (by omega) (k:=2) (by omega) (by omega) cq;obtain ⟨ts,d',g1,g2,g3⟩:=RQ (m+1) m (by omega) b hs (N+1) (pe+1) (by omega) (by omega) (by omega) (by omega) d ([],((.im true),[]),()) (m+1) 0 [] d2 (by omega) (by omega) rfl (by intro p hp;cases hp) eO;refine ⟨ts,d',g1,g2,agu _ ?_⟩;refine jC e1 (jC e2 ?_);dsimp only;rw [show ao (1+(N:Int))=((N+1:Nat):Int) from gF,show ao (1+(pe:Int))=((pe+1:Nat):Int) from gF];exact g3
end
section
open Go Go.ax
def lD:List BB:=[[97],[98],[99],[100],[101],[112],[122,122],[119],[120],[121],[122],[111,107],[109,97,105,110],[113]]
theorem vX (n:Nat) (hn:40≤n) {x:BB} (hx:x∈lD):T n 62 [.one (sC x)] []=some (.one (bC true),[]):=by
 simp only [lD,gU,nK,nL] at hx;rcases hx with rfl | rfl | rfl | rfl | rfl | rfl | rfl | rfl | rfl | rfl | rfl | rfl | rfl | rfl;all_goals (obtain ⟨m,rfl⟩:=bl 40 n;kernel_rfl)
theorem ap4 (n:Nat) (hn:60≤n) {k:Int} {x:BB} (hx:(k,x)∈iT):T n 165 [.agg [iC k,sC x]] []=some (.one (bC true),[]):=by
 simp only [iT,gU,nK,nL,fK] at hx;rcases hx with ⟨rfl,rfl⟩ | ⟨rfl,rfl⟩ | ⟨rfl,rfl⟩ | ⟨rfl,rfl⟩ | ⟨rfl,rfl⟩ | ⟨rfl,rfl⟩ | ⟨rfl,rfl⟩ | ⟨rfl,rfl⟩ | ⟨rfl,rfl⟩ | ⟨rfl,rfl⟩ | ⟨rfl,rfl⟩ | ⟨rfl,rfl⟩ | ⟨rfl,rfl⟩;all_goals (obtain ⟨m,rfl⟩:=bl 60 n;kernel_rfl)
def lQ (k:Int) (x:BB):BB:=if k=0 then [117,110,105,116] else if k=1 then [105,110,116] else if k=2 then [98,111,111,108] else if k=3 then [116,101,120,116] else if k=4 then [108,105,115,116] else [99,104,97,110,32]++x
theorem ab3 (n:Nat) (hn:80≤n) {k:Int} {x:BB} (hx:(k,x)∈iT):T n 17 [.agg [iC k,sC x]] []=some (.one (sC (lQ k x)),[]):=by
 simp only [iT,gU,nK,nL,fK] at hx;rcases hx with ⟨rfl,rfl⟩ | ⟨rfl,rfl⟩ | ⟨rfl,rfl⟩ | ⟨rfl,rfl⟩ | ⟨rfl,rfl⟩ | ⟨rfl,rfl⟩ | ⟨rfl,rfl⟩ | ⟨rfl,rfl⟩ | ⟨rfl,rfl⟩ | ⟨rfl,rfl⟩ | ⟨rfl,rfl⟩ | ⟨rfl,rfl⟩ | ⟨rfl,rfl⟩;all_goals (obtain ⟨m,rfl⟩:=bl 80 n;kernel_rfl)
def dg (k:Nat):BB:=[UInt8.ofNat (48+k)]
theorem XC {p:Nat→BB→Prop} (h:p 0 [48]∧p 1 [49]∧p 2 [50]∧p 3 [51]∧p 4 [52]∧p 5 [53]∧p 6 [54]∧p 7 [55]∧p 8 [56]∧p 9 [57]) {k:Nat} (hk:k < 10):p k (dg k):=by
 obtain ⟨h0,h1,h2,h3,h4,h5,h6,h7,h8,h9⟩:=h;match k,hk with
 | 0,_=>exact h0
 | 1,_=>exact h1
 | 2,_=>exact h2
 | 3,_=>exact h3
 | 4,_=>exact h4
 | 5,_=>exact h5
 | 6,_=>exact h6
 | 7,_=>exact h7
 | 8,_=>exact h8
 | 9,_=>exact h9
theorem akq (n:Nat) (hn:20≤n) {k:Nat} (hk:k < 10):T n 57 [.one (iC k)] []=some (.one (sC (dg k)),[]):=by
 refine XC (p:=fun k d=>T n 57 [.one (iC k)] []=some (.one (sC d),[])) ?_ hk;refine ⟨?_,?_,?_,?_,?_,?_,?_,?_,?_,?_⟩;all_goals (obtain ⟨m,rfl⟩:=bl 20 n;kernel_rfl)
theorem aom (n:Nat) (hn:20≤n) (b:Bool) {many:Nat} (h2:2≤many) (h4:many≤4):T n 95 [.one (lC (.im b) 1 (db many))] []=some (.one (bC true),[]):=by
 obtain ⟨m,rfl⟩:=bl 20 n;have:many=2∨many=3∨many=4:=by omega
 rcases this with rfl | rfl | rfl;all_goals (show _=_;kernel_rfl)
theorem YZ (n:Nat) (hn:20≤n) (b:Bool) {many k:Nat} (h4:many≤4) (hk:k < many):T n 110 [.one (lC (.im b) 1 (db many)),.one (sC (bG k))] []=some (.one (bC true),[]):=by
 obtain ⟨m,rfl⟩:=bl 20 n;have h1:many=1∨many=2∨many=3∨many=4:=by omega
 have h2:k=0∨k=1∨k=2∨k=3:=by omega
 rcases h1 with rfl | rfl | rfl | rfl<;>rcases h2 with rfl | rfl | rfl | rfl<;>first | omega | (show _=_;kernel_rfl)
theorem aaS {x:BB} (h:x∈qA):x∈lD:=by
 simp only [qA,gU,nK,nL] at h;rcases h with rfl | rfl | rfl | rfl | rfl<;>decide
theorem G' {k:Nat} (h:k < 4):bG k∈lD:=by
 match k,h with
 | 0,_=>decide
 | 1,_=>decide
 | 2,_=>decide
 | 3,_=>decide
end
section
open Go Go.ax
theorem abq:∀(l:List BB) (x:BB),qC (l.map fun s=>[.str s,.bool true]) x=l.contains x
 | [],x=>rfl
 | s::l,x=>by
  have ih:=abq l x;rw [List.contains_cons,←ih];show (bif x==s then true else qC (l.map fun s=>[.str s,.bool true]) x)=_;cases x==s<;>rfl
theorem abr:∀(l:List BB) (x:BB),x∉l→qD (l.map fun s=>[.str s,.bool true]) x true=(l++[x]).map fun s=>[.str s,.bool true]
 | [],x,h=>rfl
 | s::l,x,h=>by
  rw [gU,not_or] at h;have ih:=abr l x h.2;show (bif x==s then _ else [.str s,.bool true]::qD (l.map fun s=>[.str s,.bool true]) x true)=_;rw [show (x==s)=false from oo.2 h.1,ih];rfl
theorem Pt {l:List AM} {i:Nat} {a:AM} (h:l[i]? = some a):(l.map cM)[i]? = some (cM a):=by rw [bQ,h];rfl
theorem VZ (m q:Nat) (hm:60≤m) (b:Bool) (P:Nat) (l:List AM) (aQ:nr P l):∀(k i:Nat),l.length - i < k→i≤l.length→
  Lp (T m) q k (P:Int) (((l.take i).map AM.mF).map fun s=>[.str s,.bool true]) b (l.map cM) (ae (l.map cM).length) (i:Int)=some (.one (bC true),[])
 | 0,i,h,_=>by omega
 | k+1,i,h,hi=>by
  obtain ⟨o1,o2,o3,o4⟩:=aQ;rw [anw];by_cases af:i < l.length
  ·have hg:l[i]? = some l[i]:=gE af;obtain ⟨p1,p2,p3⟩:=o4 l[i] (bM af);have JG:l.take (i+1)=l.take i++[l[i]]:=by rw [tK,hg];rfl
   have Zs:l[i].mF∉(l.take i).map AM.mF:=by
    have h1:((l.take (i+1)).map AM.mF).Nodup:=by
     rw [List.map_take];exact o3.sublist (List.take_sublist _ _)
    rw [JG,ev,HG] at h1;intro vE;exact h1.2.2 _ vE _ (by simp) rfl
   refine dx (aX (by rw [bI,cf];omega)) (gZ (v:=(l[i].mF,l[i].kd,l[i].nm,(l[i].nx:Int),())) rfl (Pt hg) (by simp [cM]) rfl ?_);dsimp only;refine og (vX m (by omega) (aaS p1)) (bO rfl (bO ?_ (og (ap4 m hm p2) (bO rfl (bO (show decide ((l[i].nx:Int) < 0)=false from bR (by omega)) (bO (show decide ((l[i].nx:Int)≥(P:Int))=false from bR (by omega)) ?_))))))
   ·rw [abq,List.contains_eq_mem];exact bR Zs
   ·rw [abr _ _ Zs,wI i];have ih:=VZ m q hm b P l ⟨o1,o2,o3,o4⟩ k (i+1) (by omega) (by omega);rw [JG,ev] at ih;exact ih
  ·exact bO (bR (by rw [bI,cf];omega)) rfl
theorem VY (n:Nat) (hn:70≤n) (b:Bool) {P:Nat} {l:List AM} (aQ:nr P l):T n 108 [.one (lC (.im b) 4 (l.map cM)),.one (iC (P:Int))] []=some (.one (bC true),[]):=by
 obtain ⟨m,rfl⟩:=bl 2 n;refine ahP _ (bO (bR ?_) (bO (bR ?_) ?_))
 ·rw [bI,cf];have:=aQ.1;omega
 ·rw [bI,cf];have:=aQ.2.1;omega
 ·rw [anx];exact VZ (m+1) (m+1) (by omega) b P l aQ (m+1) 0 (by have:=aQ.2.1;omega) (by omega)
theorem YH {l:List TN} {i:Nat} {a:TN} (h:l[i]? = some a):(l.map cN)[i]? = some (cN a):=by rw [bQ,h];rfl
def SC (P:Nat) (p:TN):Prop:=(p.kd=0∧p.pr=[]∧p.ms=[])∨((p.kd=1∨p.kd=2)∧p.pr∈lD∧nr P p.ms)
theorem Gy (m q:Nat) (hm:80≤m) (b:Bool) (a0:au nD) (P:Nat) (hP:ae a0.2.1.2.length=(P:Int)) (l:List TN) (hl:l.length≤40) (aQ:∀p∈l,SC P p):∀(k i:Nat),l.length - i < k→i≤l.length→
  Lo (T m) (q+1) k a0 b (l.map cN) (ae (l.map cN).length) (i:Int)=some (.one (bC true),[])
 | 0,i,h,_=>by omega
 | k+1,i,h,hi=>by
  rw [ant];by_cases af:i < l.length
  ·have hg:l[i]? = some l[i]:=gE af;have ih:=Gy m q hm b a0 P hP l hl aQ k (i+1) (by omega) (by omega);refine dx (aX (by rw [bI,cf];omega)) (gZ (v:=(l[i].kd,l[i].pr,(l[i].t,l[i].ms.map cM),())) rfl (YH hg) (by simp [cN]) (by simp [cN,eb,kq]) ?_);dsimp only;have fin:Gt (T m) (q+1) k (q+1) a0 b (l.map cN) (ae (l.map cN).length) (i:Int) (l[i].kd,l[i].pr,(l[i].t,l[i].ms.map cM),())=some (.one (bC true),[]):=by
    rw [anu,wI i];exact ih
   rcases aQ l[i] (bM af) with ⟨p1,p2,p3⟩ | ⟨p1,p2,p3⟩
   ·refine dx (by rw [p1];rfl) (bO (by rw [p2];rfl) (bO (by rw [p3];rfl) fin))
   ·rw [hP];rcases p1 with p1 | p1
    ·refine bO (by rw [p1];rfl) (dx (by rw [p1];rfl) (og (vX m (by omega) p2) (bO rfl (og (VY m (by omega) _ p3) (bO rfl fin)))))
    ·refine bO (by rw [p1];rfl) (bO (by rw [p1];rfl) (dx (by rw [p1];rfl) (og (vX m (by omega) p2) (bO rfl (og (VY m (by omega) _ p3) (bO rfl fin))))))
  ·exact bO (bR (by rw [bI,cf];omega)) rfl
theorem MO (n:Nat) (hn:90≤n) (b:Bool) (nm:BB) {l:List TN} (h1:1≤l.length) (hl:l.length≤40) (aQ:∀p∈l,SC l.length p):T n 53 [.agg [sC nm,lC (.im b) 3 (l.map cN)]] []=some (.one (bC true),[]):=by
 obtain ⟨m,rfl⟩:=bl 2 n;refine ahO _ (bO (bR ?_) (bO (bR ?_) ?_))
 ·rw [bI,cf];omega
 ·rw [bI,cf];omega
 ·rw [anv];exact Gy (m+1) m (by omega) b _ l.length (by rw [bI,cf]) l hl aQ (m+1) 0 (by omega) (by omega)
theorem abD {P:Nat} {p:TN} (h:At P p):SC P p:=by
 rcases h with h | ⟨h1,⟨k,h2,h3⟩,h4⟩
 ·exact .inl h
 ·exact .inr ⟨h1,h3▸G' (by omega),h4⟩
def gN (p:PT):TN:=if p.ms=[] then ⟨0,[],p.t,[]⟩ else ⟨1,p.to,p.t,p.ms⟩
theorem Pu {l:List PT} {i:Nat} {a:PT} (h:l[i]? = some a):(l.map cP)[i]? = some (cP a):=by rw [bQ,h];rfl
theorem YL (m q:Nat) (b:Bool) (z:au uN) {P many:Nat} (l:List PT) (hl:l.length≤24) (aQ:∀p∈l,rD P many p):∀(k i:Nat),l.length - i < k→i≤l.length→1≤l.length→
  JY (T m) (q+1) k z ([],kB (((l.take i).map gN).map cN),()) b (l.map cP) (ae (l.map cP).length) (i:Int)=some (.agg [sC [],lC (.im false) 3 ((l.map gN).map cN)],[])
 | 0,i,h,_,_=>by omega
 | k+1,i,h,hi,h1=>by
  rw [akz];by_cases af:i < l.length
  ·have hg:l[i]? = some l[i]:=gE af;have JG:l.take (i+1)=l.take i++[l[i]]:=by rw [tK,hg];rfl
   have ih:=YL m q b z l hl aQ k (i+1) (by omega) (by omega) h1;rw [JG,ev,ev,show List.map cN (List.map gN [l[i]])=[cN (gN l[i])] from rfl,ML] at ih;refine dx (aX (by rw [bI,cf];omega)) (gZ (v:=(l[i].fr,l[i].to,(l[i].t,l[i].ms.map cM),())) rfl (Pu hg) (by simp [cP]) (by simp [cP,eb,kq]) ?_);dsimp only;have hw:=wI i;have fin:∀(x:au ads) (kd:Int) (pr:BB),cN (gN l[i])=[.int .i64 kd,.str pr,.sl (.im l[i].t) 4 (l[i].ms.map cM)]→
     CH (T m) (q+1) k (q+1) z ([],kB (((l.take i).map gN).map cN),()) b (l.map cP) (ae (l.map cP).length) (i:Int) x (kd,pr,((.im l[i].t),l[i].ms.map cM),())=some (.agg [sC [],lC (.im false) 3 ((l.map gN).map cN)],[]):=by
    intro x kd pr hc;rw [akA,hw];have hlen:(((l.take i).map gN).map cN).length=i:=by simp;omega
    rw [hc] at ih;generalize ((l.take i).map gN).map cN=R at ih hlen ⊢;cases R with
    | nil=>exact rR (rR (dC rfl ih))
    | cons r R=>exact lh (rR (dC (room (by simp only [kB];omega) (by omega)) ih))
   rcases aQ l[i] (bM af) with ⟨p1,p2,p3⟩ | ⟨k1,k2,_,_,_,p1,p2,p3⟩
   ·refine bO (by rw [p1];rfl) (bO (by rw [p2];rfl) (bO (by rw [p3];rfl) (fin _ _ _ ?_)));simp [gN,cN,p3]
   ·refine dx (by rw [p1];rfl) (fin _ _ _ ?_);have:l[i].ms≠[]:=by
     intro e;have:=p3.1;rw [e] at this;simp at this
    simp [gN,cN,this]
  ·obtain rfl:i=l.length:=by omega
   refine bO (bR (by rw [bI,cf];omega)) ?_;rw [A5];cases l with
   | nil=>simp at h1
   | cons p l=>
    refine lh (dC (g1 (by simp [kB])) (dC (g2 _) ?_));simp only [zB,zW,zM,dj,kB];rw [L9]
theorem ai' (n:Nat) (hn:40≤n) (b b2:Bool) (nm:BB) (rs:RR) {P many:Nat} {l:List PT} (h1:1≤l.length) (hl:l.length≤24) (aQ:∀p∈l,rD P many p) :
  T n 111 [.agg [sC nm,lC (.im b2) 1 rs,lC (.im b) 3 (l.map cP)]] []=some (.agg [sC [],lC (.im false) 3 ((l.map gN).map cN)],[]):=by
 obtain ⟨m,rfl⟩:=bl 2 n;exact af7 _ (YL (m+1) m b _ l hl aQ (m+1) 0 (by omega) (by omega) h1)
theorem acs {nm:BB} (m q:Nat) (hm:100≤m) (bn:Bool) {b2 b:Bool} {many:Nat} {l:List PT} (h:kW many l):∀(k i:Nat),l.length - i < k→i≤l.length→
  FW (T m) (q+1) k (nm,(b2,db many),(b,l.map cP),()) b (l.map cP) (ae (l.map cP).length) (i:Int)=some (.one (bC true),[])
 | 0,i,h,_=>by omega
 | k+1,i,hk,hi=>by
  obtain ⟨o1,o2,o3,o4,o5⟩:=h;rw [akv];by_cases af:i < l.length
  ·have hg:l[i]? = some l[i]:=gE af;have ih:=acs (nm:=nm) m q hm bn (b2:=b2) (b:=b) ⟨o1,o2,o3,o4,o5⟩ k (i+1) (by omega) (by omega);have hw:=wI i;refine dx (aX (by rw [bI,cf];omega)) (gZ (v:=(l[i].fr,l[i].to,(l[i].t,l[i].ms.map cM),())) rfl (Pu hg) (by simp [cP]) (by simp [cP,eb,kq]) ?_);dsimp only;rw [hw];rcases o5 l[i] (bM af) with ⟨p1,p2,p3⟩ | ⟨k1,k2,q1,q2,q3,p1,p2,p3⟩
   ·exact dx (by rw [p1];rfl) (dx (by rw [p2];rfl) (dx (by rw [p3];rfl) ih))
   ·refine bO (by rw [p1];rfl) ?_;rw [akw,hw];dsimp only;rw [p1,p2];refine og (YZ m (by omega) b2 o2 q1) (bO rfl (og (YZ m (by omega) b2 o2 q2) (bO rfl (bO ?_ ih))));rw [oo];intro e;have h1:k1 < 4:=by omega
    have h2:k2 < 4:=by omega
    unfold bG at e;match k1,h1,k2,h2 with
    | 0,_,0,_=>exact q3 rfl
    | 1,_,1,_=>exact q3 rfl
    | 2,_,2,_=>exact q3 rfl
    | 3,_,3,_=>exact q3 rfl
    | 0,_,1,_=>cases e
    | 0,_,2,_=>cases e
    | 0,_,3,_=>cases e
    | 1,_,0,_=>cases e
    | 1,_,2,_=>cases e
    | 1,_,3,_=>cases e
    | 2,_,0,_=>cases e
    | 2,_,1,_=>cases e
    | 2,_,3,_=>cases e
    | 3,_,0,_=>cases e
    | 3,_,1,_=>cases e
    | 3,_,2,_=>cases e
  ·refine bO (bR (by rw [bI,cf];omega)) ?_;refine DN (v:=([],(false,(l.map gN).map cN),())) (ai' m (by omega) b b2 nm (db many) o3 (by omega) o5) (by rfl) ?_;refine og (MO m (by omega) false [] (l:=l.map gN) (by simpa using o3) (by simp;omega) ?_) rfl;intro p hp;rw [iD] at hp;obtain ⟨x,hx,rfl⟩:=hp;rw [cf];rcases o5 x hx with ⟨p1,p2,p3⟩ | ⟨k1,k2,q1,q2,q3,p1,p2,p3⟩
   ·refine .inl ?_;simp [gN,p3]
   ·have:x.ms≠[]:=by
     intro e;have:=p3.1;rw [e] at this;simp at this
    refine .inr ?_;simp only [gN,this,dF];exact ⟨by simp,p2▸G' (by omega),p3⟩
theorem acV {nm:BB} (m q:Nat) (hm:100≤m) {b2 b:Bool} {many:Nat} {l:List PT} (h:kW many l) (hq:60≤q):∀(k i:Nat),many - i < k→i≤many→
  JX (T m) (q+1) k (nm,(b2,db many),(b,l.map cP),()) b2 (db many) (ae (db many).length) (i:Int)=some (.one (bC true),[])
 | 0,i,h,_=>by omega
 | k+1,i,hk,hi=>by
  have hlen:=pQ many;have h4:=h.2.1;rw [akx];by_cases af:i < many
  ·have ih:=acV (nm:=nm) m q hm (b2:=b2) (b:=b) h hq k (i+1) (by omega) (by omega);refine dx (aX (by rw [bI,hlen];omega)) (gZ (v:=(bG i,())) rfl (nZ af) (by simp) rfl ?_);dsimp only;refine og (vX m (by omega) (G' (by omega))) (bO rfl ?_);rw [wI i];exact ih
  ·refine bO (bR (by rw [bI,hlen];omega)) ?_;exact acs m q hm true h (q+1) 0 (by have:=h.2.2.2.1;omega) (by omega)
theorem YK {nm:BB} (sL:nm∈lD) (n:Nat) (hn:120≤n) (b2 b:Bool) {many:Nat} {l:List PT} (h:kW many l):T n 55 [.agg [sC nm,lC (.im b2) 1 (db many),lC (.im b) 3 (l.map cP)]] []=some (.one (bC true),[]):=by
 obtain ⟨m,rfl⟩:=bl 2 n;have hlen:=pQ many;have h2:=h.1;have h4:=h.2.1;have h8:=h.2.2.2.1;refine af6 _ (og (vX (m+1) (by omega) sL) (bO rfl (bO (bR ?_) (bO (bR ?_) (og (aom (m+1) (by omega) b2 h2 h4) (bO rfl (bO (bR ?_) ?_)))))))
 ·rw [bI,hlen];omega
 ·rw [bI,hlen];omega
 ·rw [bI,cf];omega
 ·rw [aky];exact acV (m+1) m (by omega) h (by omega) (m+1) 0 (by omega) (by omega)
end
section
open Go Go.ax
theorem Hk (a b:BB):D.dc (a++b)=D.dc a++D.dc b:=by unfold D.dc;exact ev
theorem mO (a:BB):(D.dc a).length=a.length:=by unfold D.dc;exact cf _
theorem DL:∀b:BB,kC (D.dc b)=some b
 | []=>rfl
 | c::r=>by
  show (kC (D.dc r)).map (UInt8.ofNat ((c.toNat:Int).toNat) :: ·)=some (c::r);rw [DL r];show some (UInt8.ofNat c.toNat::r)=_;rw [UInt8.ofNat_toNat]
theorem MV (x:RR) (b:Bool):fS 1 x b=true:=by
 show (lZ x||true)=true;exact Bool.or_true _
abbrev B0:au bm:=((),(.im true,[]),())
abbrev BW (t:BB):au bm:=((),(.own,D.dc t),())
section
variable {m:Nat} {s t:BB} {z:OR}
theorem Xb {x:au bm} (hm:1≤m) {K:Unit×au bm×Unit→OR} (h:K ((),x,())=z):c91 (T m) x K=z:=by
 obtain ⟨m,rfl⟩:=bl 1 m;obtain ⟨⟨⟩,⟨tg,r⟩,⟨⟩⟩:=x;have e:T (m+1) 91 [pE] [bx bm ((),(tg,r),())]=some (.aq [],[bx bm ((),(tg,r),())]):=by kernel_rfl
 exact Ui e h
theorem ad5 {o:OR} {i:Int} {ds:List DS} {p:au ds} {K:(Int×Bool×Unit)×au ds×Unit→OR} {y:OR} (h:o=some (.aq [.one (iC i),.one .fR],[bx ds p])) (h2:K ((i,true,()),p,())=y):aG (.aq [.one (.int .i64),.fj] [ds]) o K=y:=by
 subst h;simp only [aG,gW,EB];exact h2
theorem Xt (hm:2≤m) (hs:s≠[]) (hl:s.length≤100000000000000) {K:(Int×Bool×Unit)×au bm×Unit→OR} (h:∀n:Int,K ((n,true,()),BW s,())=z):du (T m) s B0 K=z:=by
 obtain ⟨m,rfl⟩:=bl 1 m;refine ad5 (i:=ae s.length) (O4 _ (Xb (by omega) (rR (dC ?_ (bO ?_ rfl))))) (h _)
 ·rw [MV,mO];simp;omega
 ·cases s with
  | nil=>exact absurd rfl hs
  | cons=>rfl
theorem q6 (hm:2≤m) (hl:t.length+s.length≤100000000000000) {K:(Int×Bool×Unit)×au bm×Unit→OR} (h:∀n:Int,K ((n,true,()),BW (t++s),())=z):du (T m) s (BW t) K=z:=by
 obtain ⟨m,rfl⟩:=bl 1 m;refine ad5 (i:=ae s.length) (O4 _ (Xb (by omega) (lh (dC ?_ ?_)))) (h _)
 ·dsimp only [zM];rw [MV,mO,mO];simp;omega
 ·exact fU (fun x:RR=>(some (V.aq [.one (iC (ae s.length)),.one .fR],[bx bm ((),(Tag.own,x),())]):OR)) (Hk t s).symm
theorem OH (hm:2≤m) (ht:t≠[]) (hl:t.length≤100000000000000) {K:BB×au yC×Unit→OR} (h:K (t,((),(),()),())=z):c37 (T m) (BW t) K=z:=by
 obtain ⟨m,rfl⟩:=bl 1 m;have h0:((D.dc t).length==0)=false:=by
  rw [mO];cases t with
  | nil=>exact absurd rfl ht
  | cons=>rfl
 refine aqf (XK _ (lh (dC ?_ (dC ?_ (qo (DL t) rfl))))) h
 ·dsimp only;rw [h0];rfl
 ·dsimp only;rw [h0,mO];simp;omega
theorem afM (hm:1≤m) {n:Nat} (h1:1≤n) (h2:n≤100000000000000) {K:Unit×au bm×Unit→OR} (h:K ((),BW [],())=z):Wy (T m) (n:Int) B0 K=z:=by
 obtain ⟨m,rfl⟩:=bl 1 m;have hd:decide ((1:Int)≤(n:Int)∧(n:Int)≤140737488355328)=true:=aX ⟨by omega,by omega⟩
 have e : T (m + 1) 112 [pE, .one (iC (n : Int))] [bx bm B0] = (match Nat.beq 89 89, decide ((1 : Int) ≤ (n : Int) ∧ (n : Int) ≤ 140737488355328) with
     | true, true => some (.aq [], [bx bm (BW [])])
     | _, _ => none) := by kernel_rfl
 rw [hd] at e;exact Ui e h
def kV (l:List BB):BB:=l.flatMap fun y=>[44,32]++y
def hC:List BB→BB
 | []=>[]
 | x::t=>x++kV t
abbrev strs (l:List BB):RR:=l.map fun s=>[.str s]
theorem adV {l:List BB} {i:Nat} (h:i < l.length):(strs l)[i]? = some [.str l[i]]:=by
 rw [bQ,gE h];rfl
theorem aac:∀l:List BB,(∀y∈l,y.length≤10000000)→(kV l).length≤10000002 * l.length
 | [],_=>by simp [kV]
 | y::l,h=>by
  have h1:=h y (kf ..);have h2:=aac l fun y hy=>h y (kF _ hy)
  simp only [kV,DY,dL,fX,jE] at h2 ⊢;omega
theorem akr {l:List BB} {i:Nat} (h:i < l.length):kV (l.take (i+1))=kV (l.take i)++[44,32]++l[i]:=by
 unfold kV;rw [tK,gE h,U3,show List.flatMap (fun y=>[44,32]++y) (some l[i]).toList=[44,32]++l[i] by simp,←ej]
theorem aad (q:Nat) (hm:2≤m) (b:Bool) (l:List BB) (hl:l.length≤200) (hy:∀y∈l,y.length≤10000000) (t:BB) (ht:t++kV l≠[]) (ri:t.length≤10000000):∀(k i:Nat),l.length - i < k→i≤l.length→
  xT (T m) (q+1) k [44,32] (BW (t++kV (l.take i))) b (strs l) (ae l.length) (i:Int)=some (.one (sC (t++kV l)),[])
 | 0,i,h,_=>by omega
 | k+1,i,h,hi=>by
  have h8:=aac (l.take i) fun y fQ=>hy y (A4 fQ)
  rw [A1] at h8;have h9:min i l.length≤200:=by omega
  rw [ank];by_cases af:i < l.length
  ·have ih:=aad q hm b l hl hy t ht ri k (i+1) (by omega) (by omega);have hyi:=hy l[i] (bM af);refine dx (aX (by rw [bI];omega)) (gZ (v:=(l[i],())) rfl (adV af) (by simp) rfl ?_);dsimp only;refine q6 hm (by simp;omega) fun _=>dx rfl (q6 hm (by simp;omega) fun _=>dx rfl ?_)
   dsimp only;rw [wI i];rw [akr af] at ih;rw [ej,ej,←ej (kV (l.take i))];exact ih
  ·obtain rfl:i=l.length:=by omega
   rw [A5] at h8 ⊢;refine bO (bR (by rw [bI];omega)) (OH hm ht (by simp;omega) rfl)
theorem adW (q:Nat) (hm:2≤m) (b:Bool) (x:BB) (l:List BB) (hx:x++kV l≠[]) (hl:l.length≤200) (hy:∀y∈x::l,y.length≤10000000) (hq:l.length≤q):∀(k i s:Nat),l.length+1 - i < k→i≤l.length+1→1≤s→s≤1000+10000000 * i→
  Ln (T m) (q+1) k b (strs (x::l)) [44,32] (s:Int) b (strs (x::l)) (ae (strs (x::l)).length) (i:Int)=some (.one (sC (hC (x::l))),[])
 | 0,i,s,h,_,_,_=>by omega
 | k+1,i,s,h,hi,h1,hs=>by
  rw [anl];have hlen:ae (strs (x::l)).length=((l.length+1:Nat):Int):=by simp [ae]
  by_cases af:i < (x::l).length
  ·have hyi:=hy (x::l)[i] (bM af);have vC:i < l.length+1:=by simpa using af
   have hw:ao (9223372036854775807 - (s:Int))=9223372036854775807 - (s:Int):=DT (by omega) (by omega);have ih:=adW q hm b x l hx hl hy hq k (i+1) (s+(x::l)[i].length) (by omega) (by omega) (by omega) (by omega);refine dx (by rw [hlen];exact aX (by omega)) (gZ (v:=((x::l)[i],())) rfl (adV af) (by simp) rfl ?_);dsimp only;refine bO (by rw [hw];exact bR (by rw [bI];omega)) ?_;rw [wI i,show ao ((s:Int)+ae (x::l)[i].length)=((s+(x::l)[i].length:Nat):Int) from gF (by rw [bI];omega) (by omega)];exact ih
  ·have vQ:=hy x (kf ..);have vC:¬ i < l.length+1:=by simpa using af
   refine bO (by rw [hlen];exact bR (by omega)) (afM (by omega) h1 (by omega) (qo (b:=[.str x]) rfl (dC rfl ?_)));show du (T m) x (BW []) _=_;refine q6 hm (by simp;omega) fun _=>dx rfl (dC ?_ ?_)
   ·simp
   ·have hd:List.take ((strs (x::l)).length - Int.toNat 1) (List.drop 1 (strs (x::l)))=strs l:=by
     show List.take ((strs l).length+1 - 1) (strs l)=_;rw [Nat.add_sub_cancel,A5]
    rw [hd,show ae (strs l).length=ae l.length by rw [cf]];have:=aad q hm b l hl (fun y h=>hy y (kF _ h)) x hx (by omega) (q+1) 0 (by omega) (by omega);rw [show kV (l.take 0)=[] from rfl,mR] at this;exact this
theorem OB {l:List BB} (hm:l.length+10≤m) (b:Bool) (hl:l.length≤200) (hy:∀y∈l,y.length≤10000000) {K:BB×Unit→OR} (h:K (hC l,())=z):ow (T m) b (strs l) [44,32] K=z:=by
 obtain ⟨m,rfl⟩:=bl 2 m;cases l with
 | nil=>exact tu (XJ _ (dx rfl rfl)) h
 | cons x l=>
  refine tu (XJ _ ?_) h;cases l with
  | nil=>exact bO rfl (dx rfl (qo (b:=[.str x]) rfl (dC rfl (by rw [show hC [x]=x from mR x];rfl))))
  | cons y l=>
   have hlen:ae (strs (x::y::l)).length=((l.length+2:Nat):Int):=by simp [ae];omega
   have gg:l.length+2≤200:=by simpa using hl
   have Zq:l.length+2+10≤m+2:=by simpa using hm
   have hw:ao (ae (strs (x::y::l)).length - 1)=((l.length+1:Nat):Int):=by rw [hlen];exact gF
   refine bO (by rw [hlen];exact oo.2 (by omega)) (bO (by rw [hlen];exact oo.2 (by omega)) (dx rfl (dC ?_ (bO ?_ ?_))))
   ·rw [hw];simp;omega
   ·rw [hw];have h3:2 < Int.tdiv 9223372036854775807 ((l.length+1:Nat):Int):=by
     rw [M' (by omega)];have:(3:Int)≤9223372036854775807 / ((l.length+1:Nat):Int):=Int.le_ediv_of_mul_le (by omega) (by omega);omega
    have h4:Int.tdiv 9223372036854775807 ((l.length+1:Nat):Int)≤9223372036854775807:=by
     rw [M' (by omega)];exact Int.ediv_le_self _ (by omega)
    rw [DT (by omega) h4];exact bR (by show ¬ ((2:Int)≥_);omega)
   ·rw [anm,ano,hw]
    rw [show ao (0 + ao (ae (List.length ([44, 32] : BB)) * ((l.length + 1 : Nat) : Int))) = ((2 * (l.length + 1) : Nat) : Int) by
      rw [show ae (List.length ([44, 32] : BB)) = 2 from rfl, show ao ((2 : Int) * ((l.length + 1 : Nat) : Int)) = ((2 * (l.length + 1) : Nat) : Int) from gF]
      exact gF]
    exact adW m (by omega) b x (y::l) (by simp [kV]) (by simp;omega) hy (by simp;omega) (m+1) 0 (2 * (l.length+1)) (by simp;omega) (by omega) (by omega) (by omega)
theorem Xj (hm:70≤m) {l:List BB} (b:Bool) (h1:l≠[]) (aA:∀y∈l,y≠[]) (hl:l.length≤50) (hy:∀y∈l,y.length≤100) {K:BB×Unit→OR} (h:K (hC l,())=z):ow (T m) b (strs l) [44,32] K=z:=
 OB (by omega) b (by omega) (fun y fQ=>by have:=hy y fQ;omega) h
end
end
section
open Go Go.ax
def u6 (x:AM):BB:=x.mF++[40]++lQ x.kd x.nm++[41,32]++dg x.nx
def nM (l:List AM):BB:=[32,123,32]++hC (l.map u6)++[32,125]
def pP (i:Nat) (p:PT):BB:=([32,32]++dg i++[58,32])++(if p.ms=[] then [101,110,100,10] else p.fr++[32,45,62,32]++p.to++nM p.ms++[10])
def yl:Nat→List PT→BB
 | _,[]=>[125,10]
 | i,p::t=>pP i p++yl (i+1) t
def nY (nm:BB) (M:Nat) (ps:List PT):BB:=([112,114,111,116,111,99,111,108,32]++nm++[32,114,111,108,101,115,32]++hC ((List.range M).map bG)++[32,123,10])++yl 0 ps
def pd (i:Nat) (p:TN):BB:=([32,32]++dg i++[58,32])++(if p.ms=[] then [101,110,100,10] else if p.kd=1 then [116,111,32]++p.pr++nM p.ms++[10] else [102,114,111,109,32]++p.pr++nM p.ms++[10])
def rV:Nat→List TN→BB
 | _,[]=>[125,10]
 | i,p::t=>pd i p++rV (i+1) t
def lX (ts:List TN):BB:=([108,111,99,97,108,32]++[122,122]++[32,123,10])++rV 0 ts
theorem RM {x:BB} (h:x∈qA):x.length≤2:=by
 simp only [qA,gU,nK,nL] at h;rcases h with rfl | rfl | rfl | rfl | rfl<;>decide
theorem Ir {k:Int} {x:BB} (h:(k,x)∈iT):(lQ k x).length≤8:=by
 simp only [iT,gU,nK,nL,fK] at h;rcases h with ⟨rfl,rfl⟩ | ⟨rfl,rfl⟩ | ⟨rfl,rfl⟩ | ⟨rfl,rfl⟩ | ⟨rfl,rfl⟩ | ⟨rfl,rfl⟩ | ⟨rfl,rfl⟩ | ⟨rfl,rfl⟩ | ⟨rfl,rfl⟩ | ⟨rfl,rfl⟩ | ⟨rfl,rfl⟩ | ⟨rfl,rfl⟩ | ⟨rfl,rfl⟩<;>decide
theorem OQ (k:Nat):(dg k).length=1:=rfl
theorem NO {P:Nat} {x:AM} (h:As P x):(u6 x).length≤14:=by
 have:=RM h.1;have:=Ir h.2.1;simp only [u6,dL,fX,jE,OQ];omega
theorem Rl (l:List BB) (h:∀y∈l,y.length≤14):(hC l).length≤16 * l.length:=by
 cases l with
 | nil=>simp [hC]
 | cons x l=>
  have h1:=h x (kf ..);have h2:∀l:List BB,(∀y∈l,y.length≤14)→(kV l).length≤16 * l.length:=by
   intro l;induction l with
   | nil=>intro _;simp [kV]
   | cons y l ih=>
    intro h;have h1:=h y (kf ..);have h2:=ih fun y hy=>h y (kF _ hy)
    simp only [kV,DY,dL,fX,jE] at h2 ⊢;omega
  have:=h2 l fun y hy=>h y (kF _ hy)
  simp only [hC,dL,fX];omega
theorem Ej {P:Nat} {l:List AM} (h:nr P l):(nM l).length≤60:=by
 have h1 := Rl (l.map u6) (by
   intro y hy
   rw [iD] at hy
   obtain ⟨x, hx, rfl⟩ := hy
   exact NO (h.2.2.2 x hx))
 have:=h.2.1;rw [cf] at h1;simp only [nM,dL,fX,jE];omega
section
variable {m:Nat} {z:OR}
theorem Iv (hm:20≤m) {k:Nat} (hk:k < 10) {K:BB×Unit→OR} (h:K (dg k,())=z):Et (T m) (k:Int) K=z:=tu (akq m hm hk) h
theorem IF (hm:80≤m) {k:Int} {x:BB} (hx:(k,x)∈iT) {K:BB×Unit→OR} (h:K (lQ k x,())=z):Bn (T m) k x K=z:=tu (ab3 m hm hx) h
theorem abW (q:Nat) (hm:80≤m) (b:Bool) {P:Nat} (hP:P≤10) {l:List AM} (aQ:nr P l):∀(k i:Nat),l.length - i < k→i≤l.length→
  J3 (T m) (q+1) k (strs ((l.take i).map u6)) b (l.map cM) (ae (l.map cM).length) (i:Int)=some (.one (sC (nM l)),[])
 | 0,i,h,_=>by omega
 | k+1,i,h,hi=>by
  have h3:=aQ.2.1;rw [akO];by_cases af:i < l.length
  ·have ih:=abW q hm b hP aQ k (i+1) (by omega) (by omega);have hg:l[i]? = some l[i]:=gE af;obtain ⟨o1,o2,o3⟩:=aQ.2.2.2 l[i] (bM af);have n1:=RM o1;have n2:=Ir o2;rw [tK,hg] at ih;refine dx (aX (by rw [bI,cf];omega)) (gZ (v:=(l[i].mF,l[i].kd,l[i].nm,(l[i].nx:Int),())) rfl (Pt hg) (by simp [cM]) rfl ?_);dsimp only;refine dC (aX (by omega)) (IF hm o2 (jr (by simp;omega) (jr (by simp;omega) (Iv (by omega) (by omega) (jr (by simp [dg];omega) (dC (room (by simp;omega) (by omega)) ?_))))));dsimp only;rw [dj,uM,wI i];rw [ev,show ∀a b:List BB,strs (a++b)=strs a++strs b from fun a b=>ev] at ih;exact ih
  ·obtain rfl:i=l.length:=by omega
   have hj := Rl (l.map u6) (by
     intro y hy
     rw [iD] at hy
     obtain ⟨x, hx, rfl⟩ := hy
     exact NO (aQ.2.2.2 x hx))
   rw [cf] at hj;rw [A5];refine bO (bR (by rw [bI,cf];omega)) (dC (g2 _) ?_);rw [dj,SS];refine Xj (by omega) false ?_ ?_ (by simp;omega) ?_ (dC (aX ?_) (jr ?_ rfl))
   ·have:=aQ.1;intro e;rw [List.map_eq_nil_iff] at e;rw [e] at this;simp at this
   ·intro y hy;rw [iD] at hy;obtain ⟨x,hx,rfl⟩:=hy;simp [u6]
   ·intro y hy;rw [iD] at hy;obtain ⟨x,hx,rfl⟩:=hy;have:=NO (aQ.2.2.2 x hx);omega
   ·dsimp only;omega
   ·simp;omega
theorem OG (hm:100≤m) (b:Bool) {P:Nat} (hP:P≤10) {l:List AM} (aQ:nr P l) {K:BB×Unit→OR} (h:K (nM l,())=z):zc (T m) b (l.map cM) K=z:=by
 obtain ⟨m,rfl⟩:=bl 2 m;refine tu (agj _ ?_) h;have h1:=aQ.1;have af:0 < l.length:=by omega
 have hg:l[0]? = some l[0]:=gE af;obtain ⟨o1,o2,o3⟩:=aQ.2.2.2 l[0] (bM af);have n1:=RM o1;have n2:=Ir o2;have h3:=aQ.2.1;rw [akN];refine dx (aX (by rw [bI,cf];omega)) (gZ (i:=0) (v:=(l[0].mF,l[0].kd,l[0].nm,(l[0].nx:Int),())) rfl (Pt hg) (by simp [cM]) rfl ?_);dsimp only;refine dC (aX (by omega)) (IF (by omega) o2 (jr (by simp;omega) (jr (by simp;omega) (Iv (by omega) (by omega) (jr (by simp [dg];omega) (dC rfl ?_))))));dsimp only;have:=abW (m:=m+1) m (by omega) b hP aQ m 1 (by omega) (by omega);rw [tK,hg] at this;exact this
theorem aoQ {P many i:Nat} {p:PT} (h:rD P many p):(pP i p).length≤80:=by
 rcases h with ⟨p1,p2,p3⟩ | ⟨k1,k2,q1,q2,q3,p1,p2,p3⟩
 ·simp [pP,p3,dg]
 ·have:=Ej p3;have h1:p.fr.length=1:=by rw [p1];rfl
  have h2:p.to.length=1:=by rw [p2];rfl
  have h3:p.ms≠[]:=by
   intro e;have:=p3.1;rw [e] at this;simp at this
  simp only [pP,h3,dF,dL,fX,jE,OQ];omega
theorem acu (q:Nat) (hm:110≤m) (b:Bool) {P many:Nat} (hP:P≤10) {l:List PT} (hl:l.length≤10) (aQ:∀p∈l,rD P many p):∀(k i:Nat) (t:BB),l.length - i < k→i≤l.length→t≠[]→t.length≤100+80 * i→
  ru (T m) (q+1) k (BW t) b (l.map cP) (ae (l.map cP).length) (i:Int)=some (.one (sC (t++yl i (l.drop i))),[])
 | 0,i,t,h,_,_,_=>by omega
 | k+1,i,t,h,hi,ht,ri=>by
  rw [akK];by_cases af:i < l.length
  ·have hg:l[i]? = some l[i]:=gE af;have hd:l.drop i=l[i]::l.drop (i+1):=tG af;have hp:=aQ l[i] (bM af);have cL:=aoQ (i:=i) hp;have ih:=acu q hm b hP hl aQ k (i+1) (t++pP i l[i]) (by omega) (by omega) (by simp [ht]) (by simp only [dL];omega);have hw:=wI i;rw [ej] at ih;refine dx (aX (by rw [bI,cf];omega)) (gZ (v:=(l[i].fr,l[i].to,(l[i].t,l[i].ms.map cM),())) rfl (Pu hg) (by simp [cP]) (by simp [cP,eb,kq]) ?_);dsimp only;refine Iv (by omega) (by omega) (dC (aX (by simp [dg])) (jr (by simp [dg]) (q6 (by omega) (by simp [dg];omega) fun _=>dx rfl ?_)));dsimp only;rw [hw,hd,show yl i (l[i]::l.drop (i+1))=pP i l[i]++yl (i+1) (l.drop (i+1)) from rfl];rcases hp with ⟨p1,p2,p3⟩ | ⟨k1,k2,q1,q2,q3,p1,p2,p3⟩
   ·rw [show pP i l[i]=([32,32]++dg i++[58,32])++[101,110,100,10] by simp only [pP,p3,bW]] at ih ⊢;rw [←ej t] at ih;refine dx (by rw [p3];rfl) (q6 (by omega) (by simp [dg];omega) fun _=>dx rfl ?_);exact ih
   ·have h3:l[i].ms≠[]:=by
     intro e;have:=p3.1;rw [e] at this;simp at this
    have vr:=Ej p3;have h1:l[i].fr.length=1:=by rw [p1];rfl
    have h2:l[i].to.length=1:=by rw [p2];rfl
    rw [show pP i l[i]=([32,32]++dg i++[58,32])++(l[i].fr++[32,45,62,32]++l[i].to++nM l[i].ms++[10]) by simp only [pP,h3,dF]] at ih ⊢;rw [←ej t] at ih;refine bO ?_ (jr (by omega) (jr (by simp;omega) (OG (by omega) _ hP p3 (jr (by simp;omega) (jr (by simp;omega) (q6 (by omega) (by simp [dg];omega) fun _=>dx rfl ?_))))))
    ·rw [bI,cf];exact oo.2 (by have:=p3.1;omega)
    ·exact ih
  ·obtain rfl:i=l.length:=by omega
   rw [List.drop_length];refine bO (bR (by rw [bI,cf];omega)) (q6 (by omega) (by simp;omega) fun _=>dx rfl ?_);exact OH (by omega) (by simp) (by simp;omega) rfl
theorem Xs {nm:BB} (sL:nm∈lD) (mz:nm.length≤1) (hm:130≤m) (b2 b:Bool) {many:Nat} {l:List PT} (h:kW many l) {K:BB×Unit→OR} (hK:K (nY nm many l,())=z):N' (T m) nm b2 (db many) b (l.map cP) K=z:=by
 obtain ⟨m,rfl⟩:=bl 2 m;have hr:db many=strs ((List.range many).map bG):=by simp [db,strs]
 have Js:=h.2.1;have dO:=h.1
 have hj := Rl ((List.range many).map bG) (by
   intro y hy
   rw [iD] at hy
   obtain ⟨x, hx, rfl⟩ := hy
   simp [bG])
 rw [cf,U7] at hj;refine tu (agh _ (og (YK sL (m+1) (by omega) b2 b h) (bO rfl (jr (by first | omega | (simp;omega)) (jr (by first | omega | (simp;omega)) ?_))))) hK;rw [hr];refine Xj (by omega) b2 ?_ ?_ (by simp;omega) ?_ (jr ?_ (jr ?_ (Xt (by omega) ?_ ?_ fun _=>dx rfl ?_)))
 ·intro e;rw [List.map_eq_nil_iff,List.range_eq_nil] at e;omega
 ·intro y hy;rw [iD] at hy;obtain ⟨x,hx,rfl⟩:=hy;simp [bG]
 ·intro y hy;rw [iD] at hy;obtain ⟨x,hx,rfl⟩:=hy;simp [bG]
 ·simp;omega
 ·simp;omega
 ·simp
 ·simp;omega
 ·have:=acu (m:=m+1) m (by omega) b (P:=l.length) (many:=many) (by have:=h.2.2.2.1;omega) (l:=l) (by have:=h.2.2.2.1;omega) h.2.2.2.2 (m+1) 0
   ([112,114,111,116,111,99,111,108,32]++nm++[32,114,111,108,101,115,32]++hC ((List.range many).map bG)++[32,123,10]) (by have:=h.2.2.2.1;omega) (by omega) (by simp) (by simp;omega)
  rw [yK] at this;exact this
theorem ad1 {P i:Nat} {p:TN} (h:At P p):(pd i p).length≤80:=by
 rcases h with ⟨p1,p2,p3⟩ | ⟨p1,⟨k,p2,p3⟩,p4⟩
 ·simp [pd,p3,dg]
 ·have:=Ej p4;have h1:p.pr.length=1:=by rw [p3];rfl
  have h3:p.ms≠[]:=by
   intro e;have:=p4.1;rw [e] at this;simp at this
  simp only [pd,h3,dF,dL,fX,jE,OQ];split<;>simp only [dL,fX,jE]<;>omega
theorem ad2 (q:Nat) (hm:110≤m) (b:Bool) {P:Nat} (hP:P≤10) {l:List TN} (hl:l.length≤10) (aQ:∀p∈l,At P p):∀(k i:Nat) (t:BB),l.length - i < k→i≤l.length→t≠[]→t.length≤100+80 * i→
  mE (T m) (q+1) k (BW t) b (l.map cN) (ae (l.map cN).length) (i:Int)=some (.one (sC (t++rV i (l.drop i))),[])
 | 0,i,t,h,_,_,_=>by omega
 | k+1,i,t,h,hi,ht,ri=>by
  rw [akI];by_cases af:i < l.length
  ·have hg:l[i]? = some l[i]:=gE af;have hd:l.drop i=l[i]::l.drop (i+1):=tG af;have hp:=aQ l[i] (bM af);have cL:=ad1 (i:=i) hp;have ih:=ad2 q hm b hP hl aQ k (i+1) (t++pd i l[i]) (by omega) (by omega) (by simp [ht]) (by simp only [dL];omega);have hw:=wI i;rw [ej] at ih;refine dx (aX (by rw [bI,cf];omega)) (gZ (v:=(l[i].kd,l[i].pr,(l[i].t,l[i].ms.map cM),())) rfl (YH hg) (by simp [cN]) (by simp [cN,eb,kq]) ?_);dsimp only;refine Iv (by omega) (by omega) (dC (aX (by simp [dg])) (jr (by simp [dg]) (q6 (by omega) (by simp [dg];omega) fun _=>dx rfl ?_)));dsimp only;rw [hw,hd,show rV i (l[i]::l.drop (i+1))=pd i l[i]++rV (i+1) (l.drop (i+1)) from rfl];rcases hp with ⟨p1,p2,p3⟩ | ⟨p1,⟨k1,p2,p3⟩,p4⟩
   ·rw [show pd i l[i]=([32,32]++dg i++[58,32])++[101,110,100,10] by simp only [pd,p3,bW]] at ih ⊢;rw [←ej t] at ih;refine dx (by rw [p1];rfl) (q6 (by omega) (by simp [dg];omega) fun _=>dx rfl ?_);exact ih
   ·have h3:l[i].ms≠[]:=by
     intro e;have:=p4.1;rw [e] at this;simp at this
    have vr:=Ej p4;have h1:l[i].pr.length=1:=by rw [p3];rfl
    rcases p1 with p1 | p1
    ·rw [show pd i l[i]=([32,32]++dg i++[58,32])++([116,111,32]++l[i].pr++nM l[i].ms++[10]) by simp only [pd,h3,dF,p1,bW]] at ih ⊢;rw [←ej t] at ih;refine bO (by rw [p1];rfl) (dx (by rw [p1];rfl) (jr (by omega) (OG (by omega) _ hP p4 (jr (by simp;omega) (jr (by simp;omega) (q6 (by omega) (by simp [dg];omega) fun _=>dx rfl ?_))))));exact ih
    ·rw [show pd i l[i]=([32,32]++dg i++[58,32])++([102,114,111,109,32]++l[i].pr++nM l[i].ms++[10]) by simp [pd,h3,p1]] at ih ⊢;rw [←ej t] at ih;refine bO (by rw [p1];rfl) (bO (by rw [p1];rfl) (dx (by rw [p1];rfl) (jr (by omega) (OG (by omega) _ hP p4 (jr (by simp;omega) (jr (by simp;omega) (q6 (by omega) (by simp [dg];omega) fun _=>dx rfl ?_)))))));exact ih
  ·obtain rfl:i=l.length:=by omega
   rw [List.drop_length];refine bO (bR (by rw [bI,cf];omega)) (q6 (by omega) (by simp;omega) fun _=>dx rfl ?_);exact OH (by omega) (by simp) (by simp;omega) rfl
theorem Xn (hm:130≤m) (b:Bool) {l:List TN} (h:uD l) {K:BB×Unit→OR} (hK:K (lX l,())=z):c21 (T m) [122,122] b (l.map cN) K=z:=by
 obtain ⟨m,rfl⟩:=bl 2 m;have hl:=h.2.1;refine tu (agf _ (og (MO (m+1) (by omega) b _ h.1 (by omega) fun p hp=>abD (h.2.2 p hp)) (bO rfl (og (vX (m+1) (by omega) (by decide)) (bO rfl ?_))))) hK;rw [akJ];refine jr (show (8:Nat)≤100000000000000 by decide) (jr (show (11:Nat)≤100000000000000 by decide) (Xt (by omega) (by simp) (by simp) fun _=>dx rfl ?_));have:=ad2 (m:=m+1) m (by omega) b (P:=l.length) (by omega) (l:=l) (by omega) h.2.2 (m+1) 0
  ([108,111,99,97,108,32]++[122,122]++[32,123,10]) (by omega) (by omega) (by simp) (by simp)
 rw [yK] at this;exact this
end
end
end Go.Proofs.YtfmpdgeiodnnfaaGreatDoor.QQ
namespace Go.Proofs.YtfmpdgeiodnnfaaGreatDoor
section
open Go Go.ax QQ
structure TM where
 kd:Int
 nm:BB
 n:Int
 tx:BB
 l:Int
 r:Int
def bz (t:TM):List D:=[.int .i64 t.kd,.str t.nm,.int .i64 t.n,.str t.tx,.int .i64 t.l,.int .i64 t.r]
structure SR where
 kd:Int
 nm:BB
 pr:BB
 lb:BB
 pc:BB
 tm:Int
 gt:Bool
 ag:RR
 ct:Bool
 cs:RR
 wt:Tag
 ws:RR
 nx:Int
def cS (s:SR):List D:=[.int .i64 s.kd,.str s.nm,.str s.pr,.str s.lb,.str s.pc,.int .i64 s.tm,.sl (.im s.gt) 1 s.ag,.sl (.im s.ct) 3 s.cs,.sl s.wt 3 s.ws,.int .i64 s.nx]
structure PR where
 nm:BB
 rt:Bool
 rs:List BB
 pt:Bool
 iu:RR
def cX (p:PR):List D:=[.str p.nm,.sl (.im p.rt) 1 (p.rs.map fun s=>[.str s]),.sl (.im p.pt) 3 p.iu]
theorem Ti:∀a:PR,1+1≤(cX a).length∧eb [DS.im 1] (List.take 1 (List.drop 1 (cX a)))=some ((fun p=>((p.rt,p.rs.map fun s=>[.str s]),())) a):=(fun a=>⟨by simp [cX],rfl⟩)
theorem AB:∀a:PR,0+3≤(cX a).length∧eb dW (List.take 3 (List.drop 0 (cX a)))=some ((fun p=>(p.nm,(p.rt,p.rs.map fun s=>[.str s]),(p.pt,p.iu),())) a):=(fun a=>⟨by simp [cX],rfl⟩)
structure LR where
 nm:BB
 tb:Bool
 ts:List TN
def mY (l:LR):List D:=[.str l.nm,.sl (.im l.tb) 3 (l.ts.map cN)]
theorem acF:∀a:LR,0+1≤(mY a).length∧eb [DS.str] (List.take 1 (List.drop 0 (mY a)))=some ((fun l=>(l.nm,())) a):=(fun a=>⟨by simp [mY],rfl⟩)
theorem Tj:∀a:LR,1+1≤(mY a).length∧eb [DS.im 3] (List.take 1 (List.drop 1 (mY a)))=some ((fun l=>((l.tb,l.ts.map cN),())) a):=(fun a=>⟨by simp [mY],rfl⟩)
structure WK where
 pb:Bool
 ps:List PR
 nm:BB
 pm:Tag×RR
 self:BB
 yb:Bool
 ty:List LR
 role:Int
def Wr (k:WK) (tt:Tag) (tm:RR) (st:Tag) (ss:RR) (nz rm:Int):au aR:=((),(k.pb,k.ps.map cX),k.nm,k.pm,(tt,tm),(st,ss),k.self,(k.yb,k.ty.map mY),k.role,nz,rm,())
def W (k:WK) (tt:Tag) (tm:List TM) (st:Tag) (ss:List SR) (nz rm:Int):au aR:=((),(k.pb,k.ps.map cX),k.nm,k.pm,(tt,tm.map bz),(st,ss.map cS),k.self,(k.yb,k.ty.map mY),k.role,nz,rm,())
def Wt (k:WK) (tm:List TM) (st:Tag) (ss:List SR) (nz rm:Int):au adq:=((),(k.pb,k.ps.map cX),k.nm,k.pm,tm.map bz,(st,ss.map cS),k.self,(k.yb,k.ty.map mY),k.role,nz,rm,())
def Ws (k:WK) (tt:Tag) (tm:List TM) (ss:List SR) (nz rm:Int):au adr:=((),(k.pb,k.ps.map cX),k.nm,k.pm,(tt,tm.map bz),ss.map cS,k.self,(k.yb,k.ty.map mY),k.role,nz,rm,())
def qU {X:Type} (t:Tag) (l:List X):Prop:=t = .own∨(t = .im true∧l=[])
theorem bJ {rs:RS} {o x:OR} {K:rs.T→OR} {Q:V→List (List C)→Prop} (f:∀r,x=some r→o=some r) (h:Wp x (J rs K Q)):Wp (aG rs o K) Q:=by
 obtain ⟨v,bs,e,q⟩:=h;rw [f _ e];exact q
theorem aE {rs:RS} {v:V} {bs:List (List C)} {x:rs.T} {K:rs.T→OR} {Q:V→List (List C)→Prop} (hd:gW rs (v,bs)=some x) (h:Wp (K x) Q):Wp (aG rs (some (v,bs)) K) Q:=by
 have e:aG rs (some (v,bs)) K=K x:=by simp only [aG,hd]
 rw [e];exact h
theorem kb {rs:RS} {o:OR} {v:V} {bs:List (List C)} {x:rs.T} {K:rs.T→OR} {Q:V→List (List C)→Prop} (ho:o=some (v,bs)) (hd:gW rs (v,bs)=some x) (h:Wp (K x) Q):Wp (aG rs o K) Q:=by
 rw [ho];exact aE hd h
section
variable {m:Nat} {Q:V→List (List C)→Prop} {k:WK} {tt st:Tag} {tm:List TM} {ss:List SR} {nz rm:Int} {d:au ak}
theorem ia {n k:Nat} (h:n≤100000000000) (hk:k≤1000):(n==n&&true&&decide ((n+1) * k≤140737488355328))=true:=by
 have:(n+1) * k≤(100000000000+1) * 1000:=Vh (by omega) hk;simp;omega
theorem jR (hm:4≤m) {n:Nat} (h1:1≤n) (h2:n≤1000000) (hd:cB d) {K:ac0.T→OR} (h:∀(j:Nat) d',j < n→cB d'→Wp (K ((j:Int),d',())) Q):Wp (dG (T m) (n:Int) d K) Q:=by
 obtain ⟨j,d',hj,dy,e⟩:=pick m (by omega) h1 h2 hd;exact kb e (by simp only [gW,oA,tX,EB];rfl) (h j d' hj dy)
theorem mQ (hm:1≤m) {z:Int} {K:Hb.T→OR} (h:Wp (K ((z,[],[],[],[],-1,(true,[]),(true,[]),(true,[]),-1,()),())) Q):Wp (kj (T m) z K) Q:=by
 obtain ⟨m,rfl⟩:=cG hm;exact bJ agE (az (aE rfl h))
theorem AU (hm:4≤m) (hN:tm.length≤100000000) (ho:qU tt tm) {a:Int} {b:BB} {c:Int} {e:BB} {f g:Int} {K:pR.T→OR}
  (h:Wp (K ((tm.length:Int),Wt k (tm++[⟨a,b,c,e,f,g⟩]) st ss nz rm,d,())) Q):Wp (w6 (T m) a b c e f g (W k tt tm st ss nz rm) d K) Q:=by
 obtain ⟨m,rfl⟩:=bl 2 m;have hw:ao (ae ((tm++[TM.mk a b c e f g]).map bz).length - 1)=(tm.length:Int):=gF (by rw [bI];simp) (by omega);refine bJ agW ?_;have fin:Wp (RC (T (m+1)) (m+1) (W k tt tm st ss nz rm) d (m+1) (W k .own (tm++[⟨a,b,c,e,f,g⟩]) st ss nz rm) d (a,b,c,e,f,g,())) (J pR K Q):=by
  rw [alj];refine jc (az ?_);refine aE (x:=((tm.length:Int),Wt k (tm++[⟨a,b,c,e,f,g⟩]) st ss nz rm,d,())) ?_ h;show gW pR (.one (iC (ao (ae ((tm++[TM.mk a b c e f g]).map bz).length - 1))),_)=_;rw [hw];rfl
 rcases ho with rfl | ⟨rfl,rfl⟩
 ·refine jc (aD (ia (by simp [W];omega) (by omega)) ?_);have e1:(W k .own (tm++[⟨a,b,c,e,f,g⟩]) st ss nz rm)=((),(W k .own tm st ss nz rm).2.1,(W k .own tm st ss nz rm).2.2.1,(W k .own tm st ss nz rm).2.2.2.1,(.own,(tm.map bz)++[[.int .i64 a,.str b,.int .i64 c,.str e,.int .i64 f,.int .i64 g]]),(W k .own tm st ss nz rm).2.2.2.2.2):=by simp [W,bz]
  rw [e1] at fin;exact fin
 ·exact eZ (aD rfl fin)
theorem rZ (hm:5≤m) (hN:tm.length≤100000000) (ho:qU tt tm) {b:BB} {K:pR.T→OR}
  (h:Wp (K ((tm.length:Int),Wt k (tm++[⟨0,b,0,[],-1,-1⟩]) st ss nz rm,d,())) Q):Wp (c87 (T m) b (W k tt tm st ss nz rm) d K) Q:=by
 obtain ⟨m,rfl⟩:=cG hm;refine bJ agO (AU (by omega) hN ho (az ?_));exact aE (x:=((tm.length:Int),Wt k (tm++[⟨0,b,0,[],-1,-1⟩]) st ss nz rm,d,())) rfl h
theorem w_num (hm:5≤m) (hN:tm.length≤100000000) (ho:qU tt tm) {b:Int} {K:pR.T→OR}
  (h:Wp (K ((tm.length:Int),Wt k (tm++[⟨1,[],b,[],-1,-1⟩]) st ss nz rm,d,())) Q):Wp (px (T m) b (W k tt tm st ss nz rm) d K) Q:=by
 obtain ⟨m,rfl⟩:=cG hm;refine bJ agP (AU (by omega) hN ho (az ?_));exact aE (x:=((tm.length:Int),Wt k (tm++[⟨1,[],b,[],-1,-1⟩]) st ss nz rm,d,())) rfl h
theorem yI (hm:5≤m) (hN:tm.length≤100000000) (ho:qU tt tm) {a b c:Int} {K:pR.T→OR}
  (h:Wp (K ((tm.length:Int),Wt k (tm++[⟨a,[],0,[],b,c⟩]) st ss nz rm,d,())) Q):Wp (sk (T m) a b c (W k tt tm st ss nz rm) d K) Q:=by
 obtain ⟨m,rfl⟩:=cG hm;refine bJ agG (AU (by omega) hN ho (az ?_));exact aE (x:=((tm.length:Int),Wt k (tm++[⟨a,[],0,[],b,c⟩]) st ss nz rm,d,())) rfl h
theorem wL (hm:4≤m) (hN:ss.length≤100000000) (ho:qU st ss) (jX : -100000000≤rm) (qx:rm≤100000000) {x0:Int} {x1 x2 x3 x4:BB} {x5:Int} {x6:Bool} {x7:RR} {x8:Bool} {x9:RR} {cz:Bool} {bL:RR} {ei:Int} {K:AG.T→OR}
  (h:Wp (K ((ss.length:Int),Ws k tt tm (ss++[⟨x0,x1,x2,x3,x4,x5,x6,x7,x8,x9,.im cz,bL,-1⟩]) nz (rm - 1),d,())) Q):Wp (qX (T m) x0 x1 x2 x3 x4 x5 x6 x7 x8 x9 cz bL ei (W k tt tm st ss nz rm) d K) Q:=by
 obtain ⟨m,rfl⟩:=bl 2 m;have hw:ao (ae ((ss++[SR.mk x0 x1 x2 x3 x4 x5 x6 x7 x8 x9 (.im cz) bL (-1)]).map cS).length - 1)=(ss.length:Int):=gF (by rw [bI];simp) (by omega);have mC:ao (rm - 1)=rm - 1:=DT (by omega) (by omega);refine bJ agV ?_;have fin:Wp (RB (T (m+1)) (m+1) (W k tt tm st ss nz rm) d (m+1) (W k tt tm .own (ss++[⟨x0,x1,x2,x3,x4,x5,x6,x7,x8,x9,.im cz,bL,-1⟩]) nz rm) d (x0,x1,x2,x3,x4,x5,(.im x6,x7),(.im x8,x9),(.im cz,bL),-1,())) (J AG K Q):=by
  rw [ali];refine jc (az ?_);refine aE (x:=((ss.length:Int),Ws k tt tm (ss++[⟨x0,x1,x2,x3,x4,x5,x6,x7,x8,x9,.im cz,bL,-1⟩]) nz (rm - 1),d,())) ?_ h;show gW AG (.one (iC (ao (ae ((ss++[SR.mk x0 x1 x2 x3 x4 x5 x6 x7 x8 x9 (.im cz) bL (-1)]).map cS).length - 1))),[bx aR (W k tt tm .own _ nz (ao (rm - 1))),_])=_;rw [hw,mC];rfl
 rcases ho with rfl | ⟨rfl,rfl⟩
 ·refine jc (aD (ia (by simp [W];omega) (by omega)) ?_);have e1:(W k tt tm .own (ss++[⟨x0,x1,x2,x3,x4,x5,x6,x7,x8,x9,.im cz,bL,-1⟩]) nz rm)=((),(W k tt tm .own ss nz rm).2.1,(W k tt tm .own ss nz rm).2.2.1,(W k tt tm .own ss nz rm).2.2.2.1,(W k tt tm .own ss nz rm).2.2.2.2.1,(.own,(ss.map cS)++[[.int .i64 x0,.str x1,.str x2,.str x3,.str x4,.int .i64 x5,.sl (.im x6) 1 x7,.sl (.im x8) 3 x9,.sl (.im cz) 3 bL,.int .i64 (-1)]]),(W k tt tm .own ss nz rm).2.2.2.2.2.2):=by simp [W,cS]
  rw [e1] at fin;exact fin
 ·exact eZ (aD rfl fin)
theorem apr {l:List SR} {a b:SR} {c:Nat} {z:D} (h:(cS a).set c z=cS b):bY ((l++[a]).map cS) (0+l.length) c z=(l++[b]).map cS:=by
 have:((l++[a]).map cS).getD (0+l.length) []=cS a:=by simp
 unfold bY;rw [this,h];simp
theorem uS (hm:5≤m) (hN:ss.length≤100000000) (ho:qU st ss) (jX : -100000000≤rm) (qx:rm≤100000000) {x0:Int} {x1 x2 x3 x4:BB} {x5:Int} {x6:Bool} {x7:RR} {x8:Bool} {x9:RR} {cz:Bool} {bL:RR} {ei:Int} {K:AG.T→OR}
  (h:Wp (K ((ss.length:Int),Ws k tt tm (ss++[⟨x0,x1,x2,x3,x4,x5,x6,x7,x8,x9,.im cz,bL,(ss.length+1:Nat)⟩]) nz (rm - 1),d,())) Q):Wp (qY (T m) x0 x1 x2 x3 x4 x5 x6 x7 x8 x9 cz bL ei (W k tt tm st ss nz rm) d K) Q:=by
 obtain ⟨m,rfl⟩:=cG hm;refine bJ agX (wL (by omega) hN ho jX qx ?_);refine ig rfl (aD (aX ?_) (fm (b:=cS ⟨x0,x1,x2,x3,x4,x5,x6,x7,x8,x9,.im cz,bL,-1⟩) ?_ (aD rfl (iA (v:=(-1,())) rfl ?_))))
 ·show ss.length < ((ss++[SR.mk x0 x1 x2 x3 x4 x5 x6 x7 x8 x9 (.im cz) bL (-1)]).map cS).length;simp
 ·show ((ss++[SR.mk x0 x1 x2 x3 x4 x5 x6 x7 x8 x9 (.im cz) bL (-1)]).map cS)[0+ss.length]? = _;simp
 ·refine az (aE (x:=((ss.length:Int),Ws k tt tm (ss++[⟨x0,x1,x2,x3,x4,x5,x6,x7,x8,x9,.im cz,bL,(ss.length+1:Nat)⟩]) nz (rm - 1),d,())) ?_ h);have e:bY ((ss++[SR.mk x0 x1 x2 x3 x4 x5 x6 x7 x8 x9 (.im cz) bL (-1)]).map cS) (0+ss.length) 9 (.int .i64 (ae ((ss++[SR.mk x0 x1 x2 x3 x4 x5 x6 x7 x8 x9 (.im cz) bL (-1)]).map cS).length))=(ss++[SR.mk x0 x1 x2 x3 x4 x5 x6 x7 x8 x9 (.im cz) bL ((ss.length+1:Nat):Int)]).map cS:=by
   refine apr ?_;rw [bI];simp [cS]
  show gW AG (.one (iC (ss.length:Int)),[bx aR (Wr k tt (tm.map bz) .own (bY ((ss++[SR.mk x0 x1 x2 x3 x4 x5 x6 x7 x8 x9 (.im cz) bL (-1)]).map cS) (0+ss.length) 9 (.int .i64 (ae ((ss++[SR.mk x0 x1 x2 x3 x4 x5 x6 x7 x8 x9 (.im cz) bL (-1)]).map cS).length))) nz (rm - 1)),bx ak d])=_;rw [e];rfl
end
end
section
open Go Go.ax QQ
def yr (z:Int):Bool:=decide (-9223372036854775808≤z)&&decide (z≤9223372036854775807)
theorem ao8:yr 0=true:=by decide
theorem ao9 {z:Int} (h : -1000000≤z) (h':z≤1000000):yr z=true:=by simp [yr];omega
theorem ao' (z:Int):yr (ao z)=true:=by
 show (decide (_≤IntKind.wrap .i64 z)&&decide (IntKind.wrap .i64 z≤_))=true;simp only [IntKind.wrap,IntKind.signed,IntKind.bits];simp;omega
def xU (t:TM):Prop:=(t.kd=0∨t.kd=1∨t.kd=3∨t.kd=4)∧t.l = -1∧t.r = -1∧yr t.n=true
def LU (tm:List TM) (i:Nat) (t:TM):Prop:=xU t∨(t.n=0∧(t.kd=6∨t.kd=7∨t.kd=9∨t.kd=12∨t.kd=18∨t.kd=19)∧∃a b x y,t.l=((a:Nat):Int)∧t.r=((b:Nat):Int)∧a≠b∧a < i∧b < i∧tm[a]? = some x∧tm[b]? = some y∧xU x∧xU y∧(x.kd≠0∨y.kd≠0))
def jj (tm:List TM):Prop:=∀i t,tm[i]? = some t→LU tm i t
theorem ja {z:Int} (h:yr z=true:=by first | exact ao8 | exact ao' _ | (refine ao9 ?_ ?_<;>(dsimp only;omega))):yr z=true:=h
theorem Pv {X:Type} {l:List X} {a:Nat} {x y:X} (h:l[a]? = some x):(l++[y])[a]? = some x:=by
 rw [mS];exact h;exact (cA.1 h).1
theorem abF {tm:List TM} {i:Nat} {t u:TM} (h:LU tm i t):LU (tm++[u]) i t:=by
 rcases h with h | ⟨hz,hk,a,b,x,y,h1,h2,h3,h4,h5,h6,h7,h8⟩
 ·exact .inl h
 ·exact .inr ⟨hz,hk,a,b,x,y,h1,h2,h3,h4,h5,Pv h6,Pv h7,h8⟩
theorem abG {tm:List TM} {u:TM} (h:jj tm) (hu:LU tm tm.length u):jj (tm++[u]):=by
 intro i t ht;by_cases hi:i < tm.length
 ·rw [mS hi] at ht;exact abF (h i t ht)
 ·rw [pX (by omega)] at ht;have:i - tm.length=0:=by
   by_cases h0:i - tm.length=0
   ·exact h0
   ·rw [pY (by simp;omega)] at ht;cases ht
  rw [this] at ht;simp at ht;subst ht;rw [show i=tm.length by omega];exact abF hu
theorem qE {tm:List TM} {u:TM} (h:jj tm) (hu:xU u):jj (tm++[u]):=abG h (.inl hu)
theorem yh {tm:List TM} {x y:TM} {c:Int} (h:jj tm) (hx:xU x) (hy:xU y) (hk:c=6∨c=7∨c=9∨c=12∨c=18∨c=19) (hv:x.kd≠0∨y.kd≠0):jj (tm++[x]++[y]++[⟨c,[],0,[],(tm.length:Int),((tm++[x]).length:Int)⟩]):=by
 refine abG (qE (qE h hx) hy) (.inr ⟨rfl,hk,tm.length,(tm++[x]).length,x,y,rfl,rfl,by simp,by simp,by simp,?_,?_,hx,hy,hv⟩)
 ·exact Pv (by simp)
 ·simp
section
variable {m:Nat} {Q:V→List (List C)→Prop} {k:WK} {tt st:Tag} {tm:List TM} {ss:List SR} {nz rm:Int} {d:au ak}
def D7 (r:RR) (b:BB):Prop:=r.length=b.length∧kC r=some b∧aV r=r∧sw r=true
theorem D7.cons {r:RR} {b:BB} (h:D7 r b) (z:Int):∃c,D7 ([[D.int .u8 0]].set 0 [D.int .u8 z]++r) (c::b):=by
 obtain ⟨h1,h2,h3,h4⟩:=h;refine ⟨UInt8.ofNat z.toNat,?_,?_,?_,?_⟩
 ·simp [h1]
 ·show (kC r).map _=_;rw [h2];rfl
 ·show Dl _::aV r=_;rw [h3];rfl
 ·show sw ([D.int .u8 z]::r)=true;simp only [sw,List.all_cons] at h4 ⊢;rw [h4];simp [D.flat]
theorem XE (q:Nat) (hq:30≤q) (z:Nat):∀(c j u:Nat) (r:RR) (b:BB),c < j→c≤18→u < 10 ^ c→D7 r b→b≠[]→b.length+c≤100→
  (∀s:BB,1≤s.length→s.length≤b.length+c→Q (.one (sC s)) [])→Wp (Ki (T q) q j (z:Int) (u:Int) r) Q
 | c,0,u,r,b,h0,_,_,_,_,_,_=>by omega
 | c,j+1,u,r,b,h0,zv,hu,hb,aA,hl,h=>by
  obtain ⟨q,rfl⟩:=bl 1 q;have hz:decide ((z:Int) < 0)=false:=bR (by omega);refine aC (alo) ?_;have Qy:1≤b.length:=by cases b with | nil=>exact absurd rfl aA | cons=>simp
  by_cases h1:u=0
  ·subst h1;refine eh rfl (eh (oo.2 (by rw [bI,hb.1];omega)) ?_);refine aC als ?_;refine eh hz (aD (by simp) ?_);rw [dj,hb.2.2.1];exact fm hb.2.1 (az (h b Qy (by omega)))
  ·match c,hu with
   | 0,hu=>simp at hu;omega
   | c+1,hu=>
    have e1:(iP ((u:Int).tdiv 10))=((u / 10:Nat):Int):=by
     have h9:(10:Nat) ^ (c+1)≤10 ^ 18:=Nat.pow_le_pow_right (by omega) zv;have h8:(u:Int).tdiv 10=((u / 10:Nat):Int):=by rw [M' (by omega)];omega
     rw [h8];show IntKind.wrap .u64 _=_;simp only [IntKind.wrap,IntKind.signed,IntKind.bits];simp;omega
    refine gl (aX (by omega)) (aC alq (aD (by rw [dj,hb.2.2.2];simp) (aD ?_ ?_)))
    ·rw [dj,MV];simp;have:=hb.1;omega
    ·rw [dj,e1];obtain ⟨x,hx⟩:=hb.cons (w8 (iP (48+(u:Int).tmod 10)));exact XE (q+1) hq z c j (u / 10) _ _ (by omega) (by omega) (by rw [Vi] at hu;omega) hx (by simp) (by simp;omega) (fun s g1 g2=>h s g1 (by simp at g2;omega))
theorem afu:D7 [] []:=⟨rfl,rfl,rfl,rfl⟩
theorem aep (hm:60≤m) {z:Nat} (hz:z < 10 ^ 17) {K:fw.T→OR} (h:∀s:BB,1≤s.length→s.length≤20→Wp (K (s,())) Q):Wp (Il (T m) (z:Int) K) Q:=by
 obtain ⟨q,rfl⟩:=bl 2 m;have hu:iP (z:Int)=(z:Int):=by
  show IntKind.wrap .u64 _=_;simp only [IntKind.wrap,IntKind.signed,IntKind.bits];simp;omega
 refine bJ ag0 (eh (bR (by omega)) ?_);rw [hu];refine aC alu (aC aln ?_);have fin:Wp (Kj (T (q+1)) (q+1) q (q+1) (z:Int) (z:Int) true []) (J fw K Q):=by
  refine aC alp (aD (by rw [MV];rfl) ?_);obtain ⟨x,hx⟩:=afu.cons (w8 (iP (48+(z:Int).tmod 10)));have e1:iP ((z:Int).tdiv 10)=((z / 10:Nat):Int):=by
   have h8:(z:Int).tdiv 10=((z / 10:Nat):Int):=by rw [M' (by omega)];omega
   rw [h8];show IntKind.wrap .u64 _=_;simp only [IntKind.wrap,IntKind.signed,IntKind.bits];simp;omega
  rw [e1];exact XE (q+1) (by omega) z 17 q (z / 10) _ _ (by omega) (by omega) (by omega) hx (by simp) (by simp) (fun s h1 h2=>aE (x:=(s,())) rfl (h s h1 (by simp at h2;omega)))
 by_cases h0:(z:Int) > 0
 ·exact gl (aX h0) fin
 ·exact eh (bR h0) (gl rfl fin)
theorem aes (hm:70≤m) {z:Nat} (hz:z≤100000000) {K:uJ.T→OR} (h:∀s:BB,1≤s.length→s.length≤30→Wp (K (s,W k tt tm st ss ((z+1:Nat):Int) rm,d,())) Q):Wp (c146 (T m) (W k tt tm st ss (z:Int) rm) d K) Q:=by
 obtain ⟨m,rfl⟩:=cG hm;have hw:=wI z;refine bJ agI ?_;show Wp (Il (T m) (ao ((z:Int)+1)) _) _;rw [hw];refine aep (by omega) (by omega) fun s h1 h2=>cg (by show 1+s.length≤_;omega) (az (aE (x:=([118]++s,W k tt tm st ss ((z+1:Nat):Int) rm,d,())) ?_ (h _ (by simp) (by simp;omega))))
 show gW uJ (.one (sC ([118]++s)),[bx aR (W k tt tm st ss (ao ((z:Int)+1)) rm),bx ak d])=_;rw [hw];rfl
theorem aqL (hm:10≤m) (hN:tm.length≤90000000) (ho:qU tt tm) (hT:jj tm) {K:pR.T→OR}
  (h:∀(z:Int) (dE:List TM),jj dE→dE.length=tm.length+3→Wp (K (z,Wt k dE st ss nz rm,d,())) Q):Wp (c196 (T m) (W k tt tm st ss nz rm) d K) Q:=by
 obtain ⟨m,rfl⟩:=cG hm;refine bJ agM (rZ (by omega) (by omega) ho ?_);refine w_num (m:=m) (k:=k) (tm:=tm++[⟨0,[110],0,[],-1,-1⟩]) (by omega) (by simp;omega) (.inl rfl) ?_;refine yI (m:=m) (k:=k) (by omega) (by simp;omega) (.inl rfl) (az ?_);exact aE rfl (h _ _ (yh hT ⟨.inl rfl,rfl,rfl,ja⟩ ⟨.inr (.inl rfl),rfl,rfl,ja⟩ (.inr (.inl rfl)) (.inr (by decide))) (by simp))
end
end
section
open Go Go.ax QQ
structure CR where
 ro:BB
 pc:BB
 gt:Bool
 ag:List Int
def eC (c:CR):List D:=[.str c.ro,.str c.pc,.sl (.im c.gt) 1 (c.ag.map bF)]
structure WR where
 lb:BB
 nm:BB
 nx:Int
def cW (w:WR):List D:=[.str w.lb,.str w.nm,.int .i64 w.nx]
theorem AA:∀a:WR,0+3≤(cW a).length∧eb uO (List.take 3 (List.drop 0 (cW a)))=some ((fun w=>(w.lb,w.nm,w.nx,())) a):=(fun a=>⟨by simp [cW],rfl⟩)
def nV (s:SR):Prop:=(∃l:List Int,s.ag=l.map bF∧l.length≤100)∧(∃l:List CR,s.cs=l.map eC∧l.length≤100∧∀c∈l,c.ag.length≤100)∧(∃l:List WR,s.ws=l.map cW∧l.length≤100)∧qU s.wt s.ws
structure WH (N:Nat) (tt:Tag) (tm:List TM) (st:Tag) (ss:List SR) (nz rm:Int):Prop where
 ot:qU tt tm
 os:qU st ss
 nt:tm.length≤N
 ns:ss.length≤N
 kT:jj tm
 kS:∀s∈ss,nV s
 n0:∃z:Nat,nz=(z:Int)∧z≤N
 r1 : -(N:Int)≤rm
 r2:rm≤20
 te:tt = .own→tm≠[]
 se:st = .own→ss≠[]
section
variable {m N:Nat} {Q:V→List (List C)→Prop} {k:WK} {tt st:Tag} {tm:List TM} {ss:List SR} {nz rm:Int} {d:au ak}
theorem WH.le {M:Nat} (h:WH N tt tm st ss nz rm) (hm:N≤M):WH M tt tm st ss nz rm:=by
 obtain ⟨z,hz,JK⟩:=h.n0;exact ⟨h.ot,h.os,by have:=h.nt;omega,by have:=h.ns;omega,h.kT,h.kS,⟨z,hz,by omega⟩,by have:=h.r1;omega,h.r2,h.te,h.se⟩
theorem WH.terms {dE:List TM} (h:WH N tt tm st ss nz rm) {M:Nat} (hm:N≤M) (h1:dE.length≤M) (h2:jj dE) (h3:dE≠[]:=by simp):WH M .own dE st ss nz rm:=by
 obtain ⟨z,hz,JK⟩:=h.n0;exact ⟨.inl rfl,h.os,h1,by have:=h.ns;omega,h2,h.kS,⟨z,hz,by omega⟩,by have:=h.r1;omega,h.r2,fun _=>h3,h.se⟩
theorem WH.step {s:SR} (h:WH N tt tm st ss nz rm) (hs:nV s):WH (N+1) tt tm .own (ss++[s]) nz (rm - 1):=by
 obtain ⟨z,hz,JK⟩:=h.n0;refine ⟨h.ot,.inl rfl,by have:=h.nt;omega,by have:=h.ns;simp;omega,h.kT,?_,⟨z,hz,by omega⟩,by have:=h.r1;omega,by have:=h.r2;omega,h.te,fun _=>by simp⟩;intro x hx;rw [dA] at hx;rcases hx with hx | hx
 ·exact h.kS x hx
 ·simp at hx;subst hx;exact hs
theorem WH.fresh {z:Nat} (h:WH N tt tm st ss (z:Int) rm):WH (N+1) tt tm st ss ((z+1:Nat):Int) rm:=by
 obtain ⟨y,hy,xI⟩:=h.n0;exact ⟨h.ot,h.os,by have:=h.nt;omega,by have:=h.ns;omega,h.kT,h.kS,⟨z+1,rfl,by omega⟩,by have:=h.r1;omega,h.r2,h.te,h.se⟩
theorem nW {a:Int} {b c d e:BB} {f g:Int}:nV ⟨a,b,c,d,e,f,true,[],true,[],.im true,[],g⟩:=
 ⟨⟨[],rfl,by simp⟩,⟨[],rfl,by simp,by simp⟩,⟨[],rfl,by simp⟩,.inr ⟨rfl,rfl⟩⟩
theorem aqH (hm:100≤m) (hN:N≤80000000) (H:WH N tt tm st ss nz rm) (hd:cB d) {kd:Int} {K:pR.T→OR}
  (h:∀(z:Int) (dE:List TM) d',jj dE→dE.length≤tm.length+3→dE≠[]→cB d'→Wp (K (z,Wt k dE st ss nz rm,d',())) Q):Wp (WN (T m) kd (W k tt tm st ss nz rm) d K) Q:=by
 obtain ⟨m,rfl⟩:=cG hm;have hl:=H.nt;have hT:=H.kT;refine bJ agJ (ai (fun h1=>?_) (fun h1=>ai (fun h2=>?_) (fun h2=>ai (fun h3=>?_) (fun h3=>?_))))
 ·refine jR (m:=m) (n:=5) (by omega) (by omega) (by omega) hd fun j d1 hj cq=>?_
  refine ai (fun h5=>?_) (fun h5=>ai (fun h6=>?_) (fun h6=>?_))
  ·refine w_num (m:=m) (k:=k) (by omega) (by omega) H.ot ?_;refine rZ (m:=m) (k:=k) (by omega) (by simp;omega) (.inl rfl) ?_;refine yI (m:=m) (k:=k) (by omega) (by simp;omega) (.inl rfl) (az ?_);exact aE rfl (h _ _ _ (yh hT ⟨.inr (.inl rfl),rfl,rfl,ja⟩ ⟨.inl rfl,rfl,rfl,ja⟩ (.inr (.inr (.inl rfl))) (.inl (by decide))) (by simp) (by simp) cq)
  ·refine jR (m:=m) (n:=9) (by omega) (by omega) (by omega) cq fun j2 d2 lu eO=>?_
   refine w_num (m:=m) (k:=k) (by omega) (by omega) H.ot (az ?_);exact aE rfl (h _ _ _ (qE hT ⟨.inr (.inl rfl),rfl,rfl,ja⟩) (by simp) (by simp) eO)
  ·refine rZ (m:=m) (k:=k) (by omega) (by omega) H.ot ?_;refine jR (m:=m) (n:=5) (by omega) (by omega) (by omega) cq fun j2 d2 lu eO=>?_
   refine w_num (m:=m) (k:=k) (by omega) (by simp;omega) (.inl rfl) ?_;refine yI (m:=m) (k:=k) (by omega) (by simp;omega) (.inl rfl) (az ?_);exact aE rfl (h _ _ _ (yh hT ⟨.inl rfl,rfl,rfl,ja⟩ ⟨.inr (.inl rfl),rfl,rfl,ja⟩ (.inl rfl) (.inr (show (1:Int)≠0 by decide))) (by simp) (by simp) eO)
 ·refine rZ (m:=m) (k:=k) (by omega) (by omega) H.ot ?_;refine jR (m:=m) (n:=4) (by omega) (by omega) (by omega) hd fun j2 d2 lu eO=>?_
  refine w_num (m:=m) (k:=k) (by omega) (by simp;omega) (.inl rfl) ?_;refine yI (m:=m) (k:=k) (by omega) (by simp;omega) (.inl rfl) (az ?_);exact aE rfl (h _ _ _ (yh hT ⟨.inl rfl,rfl,rfl,ja⟩ ⟨.inr (.inl rfl),rfl,rfl,ja⟩ (.inr (.inr (.inr (.inl rfl)))) (.inr (show (1:Int)≠0 by decide))) (by simp) (by simp) eO)
 ·refine jR (m:=m) (n:=9) (by omega) (by omega) (by omega) hd fun j2 d2 lu eO=>?_
  refine aep (m:=m) (by omega) (by omega) fun s g1 g2=>cg (by show 1+s.length≤_;omega) ?_
  refine AU (m:=m) (k:=k) (by omega) (by omega) H.ot ?_;refine AU (m:=m) (k:=k) (by omega) (by simp;omega) (.inl rfl) ?_;refine yI (m:=m) (k:=k) (by omega) (by simp;omega) (.inl rfl) (az ?_);exact aE rfl (h _ _ _ (yh hT ⟨.inr (.inr (.inl rfl)),rfl,rfl,ja⟩ ⟨.inr (.inr (.inl rfl)),rfl,rfl,ja⟩ (.inr (.inr (.inr (.inr (.inr rfl))))) (.inr (by decide))) (by simp) (by simp) eO)
 ·refine AU (m:=m) (k:=k) (by omega) (by omega) H.ot ?_;refine rZ (m:=m) (k:=k) (by omega) (by simp;omega) (.inl rfl) ?_;refine yI (m:=m) (k:=k) (by omega) (by simp;omega) (.inl rfl) (az ?_);exact aE rfl (h _ _ _ (yh hT ⟨.inr (.inr (.inr rfl)),rfl,rfl,ja⟩ ⟨.inl rfl,rfl,rfl,ja⟩ (.inr (.inr (.inr (.inr (.inl rfl))))) (.inl (by decide))) (by simp) (by simp) hd)
theorem M5 (hm:100≤m) (hN:N≤80000000) (H:WH N tt tm st ss nz rm) {over:Bool} {K:uK.T→OR}
  (h:∀ss' gS,WH (N+2) tt tm .own ss' nz gS→(∃x,ss'=ss++x∧1≤x.length)→Wp (K ((ss.length:Int),W k tt tm .own ss' nz gS,d,())) Q):Wp (c141 (T m) over (W k tt tm st ss nz rm) d K) Q:=by
 obtain ⟨m,rfl⟩:=bl 2 m;have hl:=H.ns;have r1:=H.r1;have r2:=H.r2;have go:∀t,qU t ss→(t = .own→ss≠[])→Wp (bif (!over) then (kj (T (m+1)) 9 fun v3=>(qY (T (m+1)) v3.1.1 [99] v3.1.2.2.1 v3.1.2.2.2.1 v3.1.2.2.2.2.1 v3.1.2.2.2.2.2.1 v3.1.2.2.2.2.2.2.1.1 v3.1.2.2.2.2.2.2.1.2 v3.1.2.2.2.2.2.2.2.1.1 v3.1.2.2.2.2.2.2.2.1.2 v3.1.2.2.2.2.2.2.2.2.1.1 v3.1.2.2.2.2.2.2.2.2.1.2 v3.1.2.2.2.2.2.2.2.2.2.1 (W k tt tm t ss nz rm) d fun v4=>(Ry (T (m+1)) (m+1) (W k tt tm st ss nz rm) d (m+1) ((),v4.2.1.2.1,v4.2.1.2.2.1,v4.2.1.2.2.2.1,v4.2.1.2.2.2.2.1,(.own,v4.2.1.2.2.2.2.2.1),v4.2.1.2.2.2.2.2.2) v4.2.2.1 (ae (ss.map cS).length) (v3.1.1,[99],v3.1.2.2)))) else (Rz (T (m+1)) (m+1) (W k tt tm st ss nz rm) d (m+1) (W k tt tm t ss nz rm) d (ae (ss.map cS).length))) (J uK K Q):=by
  intro t ht mB;have hn:ae (ss.map cS).length=(ss.length:Int):=by rw [bI];simp
  rw [hn];have Ht:WH N tt tm t ss nz rm:=⟨H.ot,ht,H.nt,H.ns,H.kT,H.kS,H.n0,H.r1,H.r2,H.te,mB⟩
  refine ai (fun h1=>?_) (fun h1=>?_)
  ·refine mQ (m:=m+1) (by omega) ?_;refine uS (m:=m+1) (k:=k) (by omega) (by omega) ht (by omega) (by omega) ?_;refine aC ak6 ?_;refine mQ (m:=m+1) (by omega) ?_;refine wL (m:=m+1) (k:=k) (by omega) (by simp;omega) (.inl rfl) (by omega) (by omega) (az ?_);exact aE rfl (h _ _ ((Ht.step nW).step nW) ⟨_,by rw [ej],by simp⟩)
  ·refine aC ak7 ?_;refine mQ (m:=m+1) (by omega) ?_;refine wL (m:=m+1) (k:=k) (by omega) (by omega) ht (by omega) (by omega) (az ?_);exact aE rfl (h _ _ ((Ht.step nW).le (by omega)) ⟨_,rfl,by simp⟩)
 refine bJ agH ?_;have mB:=H.se;rcases H.os with rfl | ⟨rfl,rfl⟩
 ·exact jc (go .own (.inl rfl) mB)
 ·exact eZ (go (.im true) (.inr ⟨rfl,rfl⟩) (by intro h;cases h))
end
end
section
open Go Go.ax QQ
def uE (p:PR):Prop:=p.nm.length≤20∧1≤p.rs.length∧p.rs.length≤10∧∀s∈p.rs,s.length≤20
def GU (P:Nat) (t:TN):Prop:=(t.kd=0∧t.ms=[])∨((t.kd=1∨t.kd=2)∧1≤t.ms.length∧t.ms.length≤10∧∀a∈t.ms,a.nx < P)
structure KH (k:WK):Prop where
 p0:k.ps≠[]
 p1:k.ps.length≤10
 p2:∀p∈k.ps,uE p
 ro:∃(r:Nat) (L:LR),k.role=(r:Int)∧k.ty[r]? = some L∧1≤L.ts.length∧L.ts.length≤100∧∀t∈L.ts,GU L.ts.length t
section
variable {m N:Nat} {Q:V→List (List C)→Prop} {k:WK} {tt st:Tag} {tm:List TM} {ss:List SR} {nz rm:Int} {d:au ak}
theorem zt {l:List BB} {i:Nat} (h:i < l.length):l[i]? = some l[i]:=gE h
theorem aeb (q:Nat) (hq:40≤q) (hk:KH k) (a0:BB) (x2:au ak) (x1:au aR) (a3:au dW)
  (h:∀p∈k.ps,∀r∈p.rs,Q (.aq [.agg [sC p.nm,lC (.im p.rt) 1 (p.rs.map fun s=>[.str s]),lC (.im p.pt) 3 p.iu],.one (sC r)]) [bx aR (W k tt tm st ss nz rm),bx ak d]) :
  ∀(c i:Nat),k.ps.length - i < c→i≤k.ps.length→Wp (Kg (T q) q x1 x2 c a0 (W k tt tm st ss nz rm) d a3 (i:Int)) Q
 | 0,i,hc,_=>by omega
 | c+1,i,hc,hi=>by
  refine aC alk (ai (fun h1=>?_) (fun h1=>?_))
  ·have af:i < k.ps.length:=bN h1;have hp:=hk.p2 _ (bM af);have hg:k.ps[i]? = some k.ps[i]:=gE af;have inner:∀(e j:Nat),k.ps[i].rs.length - j < e→j≤k.ps[i].rs.length→Wp (Kh (T q) q x1 x2 c e a0 (W k tt tm st ss nz rm) d a3 (i:Int) (j:Int)) Q:=by
    intro e;induction e with
    | zero=>intro j he;omega
    | succ e ih=>
     intro j he hj;refine aC alm ?_;refine aM Ti rfl hg (ai (fun h2=>?_) (fun h2=>?_))
     ·have lu:j < k.ps[i].rs.length:=bN h2;have hr:=zt lu;have gC:=hp.2.2.2 _ (bM lu);have hpn:=hp.1;refine aM (enc:=cX) (f:=fun p=>(p.nm,())) (fun a=>⟨by simp [cX],rfl⟩) rfl hg (cg (by dsimp only;omega) ?_);refine aM Ti rfl hg ?_;refine aM (enc:=fun s:BB=>[D.str s]) (f:=fun s=>(s,())) (fun a=>⟨by simp,rfl⟩) rfl hr (cg (by dsimp only;simp only [dL,fX,jE];omega) ?_);refine ai (fun h4=>?_) (fun h4=>?_)
      ·refine aM AB rfl hg ?_;refine aM Ti rfl hg ?_;refine aM (enc:=fun s:BB=>[D.str s]) (f:=fun s=>(s,())) (fun a=>⟨by simp,rfl⟩) rfl hr ?_;exact az (h _ (bM af) _ (bM lu))
      ·rw [show ao ((j:Int)+1)=((j+1:Nat):Int) from gF (by omega) (by have:=hp.2.2.1;omega)];exact ih (j+1) (by omega) (by omega)
     ·rw [show ao ((i:Int)+1)=((i+1:Nat):Int) from gF (by omega) (by have:=hk.p1;omega)];exact aeb q hq hk a0 x2 x1 a3 h c (i+1) (by omega) (by omega)
   exact inner q 0 (by have:=hp.2.2.1;omega) (by omega)
  ·have h0:0 < k.ps.length:=by have:=hk.p0;cases e9:k.ps with | nil=>exact absurd e9 this | cons=>simp
   have hg:k.ps[0]? = some k.ps[0]:=gE h0;have hp:=hk.p2 _ (bM h0);have hr:=zt (l:=k.ps[0].rs) (i:=0) (by have:=hp.2.1;omega);have qm:(k.ps.map cX)[0]? = some (cX k.ps[0]):=by rw [bQ,hg];rfl
   have eV:(k.ps[0].rs.map fun s=>[D.str s])[0]? = some [D.str (k.ps[0].rs[0]'(by have:=hp.2.1;omega))]:=by rw [bQ,hr];rfl
   refine fm qm (aD (aX (by simp [cX])) (iA (v:=(k.ps[0].nm,(k.ps[0].rt,k.ps[0].rs.map fun s=>[.str s]),(k.ps[0].pt,k.ps[0].iu),())) rfl ?_));refine aC (yn (r:=cX k.ps[0]) (v:=((k.ps[0].rt,k.ps[0].rs.map fun s=>[.str s]),())) qm (by simp [cX]) rfl rfl) ?_;refine fm eV (aD (aX (by simp)) (iA (v:=(_,())) rfl ?_));exact az (h _ (bM h0) _ (bM _))
theorem aeH (hm:50≤m) (hk:KH k) {a0:BB} {K:ac2.T→OR}
  (h:∀p∈k.ps,∀r∈p.rs,Wp (K (((p.nm,(p.rt,p.rs.map fun s=>[.str s]),(p.pt,p.iu),()),r,()),W k tt tm st ss nz rm,d,())) Q):Wp (c198 (T m) a0 (W k tt tm st ss nz rm) d K) Q:=by
 obtain ⟨m,rfl⟩:=cG hm;refine bJ agZ ?_;exact aeb m (by omega) hk a0 d (W k tt tm st ss nz rm) _ (fun p hp r hr=>aE rfl (h p hp r hr)) m 0 (by have:=hk.p1;omega) (by omega)
theorem Hv (hm:1≤m) {a:BB} {b:Bool} {c:RR} {e:Bool} {f:RR} {r:BB} (ha:a.length≤20) (hr:r.length≤20) {K:fw.T→OR} (h:∀s:BB,s.length≤40→Wp (K (s,())) Q):Wp (Bp (T m) a b c e f r K) Q:=by
 obtain ⟨m,rfl⟩:=cG hm;exact bJ agw (cg (by omega) (az (aE (x:=(a++r,())) rfl (h _ (by simp;omega)))))
end
end
section
open Go Go.ax QQ
def cO (c:CR):List D:=[.str c.ro,.str c.pc,.sl .own 1 (c.ag.map bF)]
theorem L8:∀l:List Int,aV (l.map bF)=l.map bF
 | []=>rfl
 | a::t=>by simp only [fY,aV,L8 t];rfl
theorem ab9:∀l:List CR,aV (l.map cO)=(l.map fun c=>{ c with gt:=false }).map eC
 | []=>rfl
 | a::t=>by
  simp only [fY,aV,ab9 t];show [_,_,D.sl (.im false) 1 (aV (a.ag.map bF))]::_=_;rw [L8];rfl
section
variable {m N:Nat} {Q:V→List (List C)→Prop} {k:WK} {tt st:Tag} {tm:List TM} {ss:List SR} {nz rm:Int} {d:au ak}
def Ny (k:WK) (N:Nat) (ss:List SR) (K:uJ.T→OR) (Q:V→List (List C)→Prop):Prop:=
 ∀(s:BB) lj dE ss' oV gS d',WH N lj dE .own ss' oV gS→(∃x,ss'=ss++x)→cB d'→Wp (K (s,W k lj dE .own ss' oV gS,d',())) Q
theorem SG (q:Nat) (hq:100≤q) (hN:N≤70000000) (p:PR) (hp:uE p) (a0:BB) (x2:au ak) (x1:au aR) {K:uJ.T→OR} (x3 x4 x5 x6:BB) (kd AL:Int) (h:Ny k (N+11) ss K Q) :
  ∀(c i:Nat) (tt:Tag) (tm:List TM) (cs:List CR) (d:au ak),p.rs.length - i < c→i≤p.rs.length→WH (N+i) tt tm st ss nz rm→cB d→cs.length≤i→(∀x∈cs,x.ag.length≤100)→
   Wp (F9 (T q) q x1 x2 c a0 (W k tt tm st ss nz rm) d (p.nm,(p.rt,p.rs.map fun s=>[.str s]),(p.pt,p.iu),()) (kd,x3,x4,x5,x6,AL,(true,[]),cs.map cO,(true,[]),-1,()) (i:Int)) (J uJ K Q)
 | 0,i,tt,tm,cs,d,hc,_,_,_,_,_=>by omega
 | c+1,i,tt,tm,cs,d,hc,hi,H,hd,aS,P2=>by
  have hp3:=hp.2.2.1;refine aC ald (ai (fun h1=>?_) (fun h1=>?_))
  ·have af:i < p.rs.length:=bN h1;have hr:=zt af;have hw:=wI i;refine aM (enc:=fun s:BB=>[D.str s]) (f:=fun s=>(s,())) (fun a=>⟨by simp,rfl⟩) rfl hr (ai (fun h2=>?_) (fun h2=>?_))
   ·refine aM (enc:=fun s:BB=>[D.str s]) (f:=fun s=>(s,())) (fun a=>⟨by simp,rfl⟩) rfl hr ?_;refine aM (enc:=fun s:BB=>[D.str s]) (f:=fun s=>(s,())) (fun a=>⟨by simp,rfl⟩) rfl hr ?_;refine Hv (m:=q) (by omega) hp.1 (hp.2.2.2 _ (bM af)) fun s hs=>?_
    refine jR (m:=q) (n:=4) (by omega) (by omega) (by omega) hd fun j d1 hj cq=>?_
    refine w_num (m:=q) (k:=k) (by omega) (by have:=H.nt;omega) H.ot (aD (ia (by simp;omega) (by omega)) ?_);rw [hw];have H2:=H.terms (M:=N+(i+1)) (dE:=tm++[⟨1,[],(j:Int),[],-1,-1⟩]) (by omega) (by have:=H.nt;simp;omega) (qE H.kT ⟨.inr (.inl rfl),rfl,rfl,ja⟩);have:=SG q hq hN p hp a0 x2 x1 x3 x4 x5 x6 kd AL h c (i+1) .own _ (cs++[⟨p.rs[i],s,false,[(tm.length:Int)]⟩]) d1 (by omega) (by omega) H2 cq (by simp;omega)
     (by intro x hx;rw [dA] at hx;rcases hx with hx | hx;exact P2 x hx;simp at hx;subst hx;simp)
    rw [ev] at this;exact this
   ·rw [hw];exact SG q hq hN p hp a0 x2 x1 x3 x4 x5 x6 kd AL h c (i+1) tt tm cs d (by omega) (by omega) (H.le (by omega)) hd (by omega) P2
  ·refine aD (by simp) ?_;have e1:aV (whole (cs.map cO))=(cs.map fun c=>{ c with gt:=false }).map eC:=by rw [dj,ab9]
   dsimp only;rw [e1];refine uS (m:=q) (k:=k) (by omega) (by have:=H.ns;omega) H.os (by have:=H.r1;omega) (by have:=H.r2;omega) (az ?_);refine aE rfl (h _ _ _ _ _ _ _ ((H.step ⟨⟨[],rfl,by simp⟩,⟨_,rfl,by simp;omega,?_⟩,⟨[],rfl,by simp⟩,.inr ⟨rfl,rfl⟩⟩).le (by omega)) ⟨_,rfl⟩ hd);intro x hx;simp only [iD] at hx;obtain ⟨y,hy,rfl⟩:=hx;exact P2 y hy
theorem abN (q:Nat) (hq:100≤q) (hN:N≤70000000) (p:PR) (hp:uE p) (a0:BB) (x2:au ak) (x1:au aR) {K:uJ.T→OR} (x3 x4 x5 x6:BB) (kd AL:Int) (h:Ny k (N+11) ss K Q) :
  ∀(c i:Nat) (tt:Tag) (tm:List TM) (d:au ak),c≤q→p.rs.length - i < c→i≤p.rs.length→WH (N+i) tt tm st ss nz rm→cB d→
   Wp (Kf (T q) q x1 x2 c a0 (W k tt tm st ss nz rm) d (p.nm,(p.rt,p.rs.map fun s=>[.str s]),(p.pt,p.iu),()) (kd,x3,x4,x5,x6,AL,(true,[]),(true,[]),(true,[]),-1,()) (i:Int)) (J uJ K Q)
 | 0,i,tt,tm,d,_,hc,_,_,_=>by omega
 | c+1,i,tt,tm,d,E7,hc,hi,H,hd=>by
  have hp3:=hp.2.2.1;refine aC alc (ai (fun h1=>?_) (fun h1=>?_))
  ·have af:i < p.rs.length:=bN h1;have hr:=zt af;have hw:=wI i;refine aM (enc:=fun s:BB=>[D.str s]) (f:=fun s=>(s,())) (fun a=>⟨by simp,rfl⟩) rfl hr (ai (fun h2=>?_) (fun h2=>?_))
   ·refine aM (enc:=fun s:BB=>[D.str s]) (f:=fun s=>(s,())) (fun a=>⟨by simp,rfl⟩) rfl hr ?_;refine aM (enc:=fun s:BB=>[D.str s]) (f:=fun s=>(s,())) (fun a=>⟨by simp,rfl⟩) rfl hr ?_;refine Hv (m:=q) (by omega) hp.1 (hp.2.2.2 _ (bM af)) fun s hs=>?_
    refine jR (m:=q) (n:=4) (by omega) (by omega) (by omega) hd fun j d1 hj cq=>?_
    refine w_num (m:=q) (k:=k) (by omega) (by have:=H.nt;omega) H.ot (aD rfl ?_);rw [hw];have H2:=H.terms (M:=N+(i+1)) (dE:=tm++[⟨1,[],(j:Int),[],-1,-1⟩]) (by omega) (by have:=H.nt;simp;omega) (qE H.kT ⟨.inr (.inl rfl),rfl,rfl,ja⟩);exact SG q hq hN p hp a0 x2 x1 x3 x4 x5 x6 kd AL h c (i+1) .own _ [⟨p.rs[i],s,false,[(tm.length:Int)]⟩] d1 (by omega) (by omega) H2 cq (by simp)
     (by intro x hx;simp at hx;subst hx;simp)
   ·rw [hw];exact abN q hq hN p hp a0 x2 x1 x3 x4 x5 x6 kd AL h c (i+1) tt tm d (by omega) (by omega) (by omega) (H.le (by omega)) hd
  ·refine uS (m:=q) (k:=k) (by omega) (by have:=H.ns;omega) H.os (by have:=H.r1;omega) (by have:=H.r2;omega) (az ?_);exact aE rfl (h _ _ _ _ _ _ _ ((H.step nW).le (by omega)) ⟨_,rfl⟩ hd)
theorem Ux (hm:110≤m) (hN:N≤60000000) (H:WH N tt tm st ss nz rm) (hd:cB d) {p:PR} (hp:uE p) {r:BB} {K:uJ.T→OR} (h:Ny k (N+12) ss K Q) :
  Wp (c85 (T m) p.nm p.rt (p.rs.map fun s=>[.str s]) p.pt p.iu r (W k tt tm st ss nz rm) d K) Q:=by
 obtain ⟨m,rfl⟩:=cG hm;obtain ⟨z,rfl,hz⟩:=H.n0;refine bJ agQ (mQ (m:=m) (by omega) (aes (m:=m) (by omega) (by omega) fun s h1 h2=>?_));exact abN m (by omega) (N:=N+1) (by omega) p hp r d _ _ _ _ _ _ _ h m 0 tt tm d (by omega) (by have:=hp.2.2.1;omega) (by omega) H.fresh hd
theorem aq1 (hm:120≤m) (hN:N≤60000000) (H:WH N tt tm st ss nz rm) (hk:KH k) (hd:cB d) {a:BB} {c:Int} {e:BB} {K:lG.T→OR}
  (h:∀lj dE st' ss' gS d',WH (N+3) lj dE st' ss' nz gS→(∃x,ss'=ss++x)→cB d'→Wp (K ((),W k lj dE st' ss' nz gS,d',())) Q):Wp (WM (T m) a c e (W k tt tm st ss nz rm) d K) Q:=by
 obtain ⟨m,rfl⟩:=cG hm;have hl:=H.nt;have hs:=H.ns;have r1:=H.r1;have r2:=H.r2;refine bJ agY (ai (fun h1=>?_) (fun h1=>?_))
 ·refine jR (m:=m) (n:=3) (by omega) (by omega) (by omega) hd fun j d1 hj cq=>ai (fun h2=>?_) (fun h2=>?_)
  ·refine mQ (m:=m) (by omega) (rZ (m:=m) (k:=k) (by omega) (by omega) H.ot ?_);have H2:=H.terms (M:=N+1) (dE:=tm++[⟨0,a,0,[],-1,-1⟩]) (by omega) (by simp;omega) (qE H.kT ⟨.inl rfl,rfl,rfl,ja⟩);refine uS (m:=m) (k:=k) (by omega) (by omega) H.os (by omega) (by omega) (az ?_);exact aE rfl (h _ _ _ _ _ _ ((H2.step nW).le (by omega)) ⟨_,rfl⟩ cq)
  ·exact az (aE rfl (h _ _ _ _ _ _ (H.le (by omega)) ⟨[],by simp⟩ cq))
 ·refine jR (m:=m) (n:=3) (by omega) (by omega) (by omega) hd fun j d1 hj cq=>ai (fun h2=>?_) (fun h2=>?_)
  ·refine mQ (m:=m) (by omega) (uS (m:=m) (k:=k) (by omega) (by omega) H.os (by omega) (by omega) (az ?_));exact aE rfl (h _ _ _ _ _ _ ((H.step nW).le (by omega)) ⟨_,rfl⟩ cq)
  ·refine aeH (m:=m) (by omega) hk fun p hp r hr=>mQ (m:=m) (by omega) ?_
   have mA:=hk.p2 p hp;refine Hv (m:=m) (by omega) mA.1 (mA.2.2.2 r hr) fun s jY=>?_
   refine rZ (m:=m) (k:=k) (by omega) (by omega) H.ot ?_;refine jR (m:=m) (n:=3) (by omega) (by omega) (by omega) cq fun j2 d2 lu eO=>?_
   refine w_num (m:=m) (k:=k) (by omega) (by simp;omega) (.inl rfl) ?_;have H2:=H.terms (M:=N+2) (dE:=tm++[⟨0,a,0,[],-1,-1⟩]++[⟨1,[],(j2:Int),[],-1,-1⟩]) (by omega) (by simp;omega) (qE (qE H.kT ⟨.inl rfl,rfl,rfl,ja⟩) ⟨.inr (.inl rfl),rfl,rfl,ja⟩);refine uS (m:=m) (k:=k) (by omega) (by omega) H.os (by omega) (by omega) (az ?_);exact aE rfl (h _ _ _ _ _ _ ((H2.step ⟨⟨[_,_],rfl,by simp⟩,⟨[],rfl,by simp,by simp⟩,⟨[],rfl,by simp⟩,.inr ⟨rfl,rfl⟩⟩).le (by omega)) ⟨_,rfl⟩ eO)
end
end
section
open Go Go.ax QQ
section
variable {m N:Nat} {Q:V→List (List C)→Prop} {k:WK} {tt st:Tag} {tm:List TM} {ss:List SR} {nz rm:Int} {d:au ak}
theorem MB {ss:List SR} {i:Nat} {s:SR} (hs:ss[i]? = some s) {t:Tag} {r:RR}:bY (ss.map cS) (0+i) 8 (.sl t 3 r)=(ss.set i { s with wt:=t,ws:=r }).map cS:=by
 have:(ss.map cS).getD (0+i) []=cS s:=by simp [List.getD,hs]
 unfold bY;rw [this,de,A3];rfl
theorem MA {ss:List SR} {i:Nat} {s:SR} (hs:ss[i]? = some s) {t:Tag} {r:RR}:bY (bY (ss.map cS) (0+i) 8 .dead) (0+i) 8 (.sl t 3 r)=(ss.set i { s with wt:=t,ws:=r }).map cS:=by
 have hi:i < ss.length:=(cA.1 hs).1;have:(ss.map cS).getD (0+i) []=cS s:=by simp [List.getD,hs]
 unfold bY;rw [this,de,A3];have e:(((ss.map cS).set i ((cS s).set 8 .dead)).getD i [])=(cS s).set 8 .dead:=by
  simp [List.getD,hi]
 rw [e,Vd];rfl
theorem aeL {L:RR} {z:Int} {i:Nat} {s:SR} {ss:List SR} (hL:L=ss.map cS) (hz:z=(i:Int)) (hs:ss[i]? = some s) (hw:s.wt = .im true) {K:Nat→OR} (h:Wp (K i) Q) :
  Wp (aH (cm z) fun o5=>gd (decide (o5 < L.length)) (aH (L[0+o5]?) fun o6=>gd (decide (0+1+1+1+1+1+1+1+1+1≤o6.length)) (cw [.im 3] (List.take 1 (List.drop 8 o6)) fun v7=>gd (v7.1.1&&true&&true) (aH (cm z) fun o8=>gd (decide (o8 < L.length)) (aH (L[0+o8]?) fun o9=>gd (decide (0+1+1+1+1+1+1+1+1+1≤o9.length)&&true) (cw [.im 3] (List.take 1 (List.drop 8 o9)) fun v10=>K o8)))))) Q:=by
 subst hL;have hi:i < ss.length:=(cA.1 hs).1;have hg:(ss.map cS)[0+i]? = some (cS s):=by rw [de,bQ,hs];rfl
 have hd:eb [.im 3] (List.take 1 (List.drop 8 (cS s)))=some ((true,s.ws),()):=by
  show eb [.im 3] [.sl s.wt 3 s.ws]=_;rw [hw];rfl
 refine ig hz (aD (aX (by simpa using hi)) (fm hg (aD rfl (iA hd (aD rfl ?_)))));exact ig hz (aD (aX (by simpa using hi)) (fm hg (aD rfl (iA hd h))))
theorem UF {z:Nat} {r:RR} {K:Nat→RR→OR} (h:Wp (K z r) Q):Wp (iY (.sl .own z r) K) Q:=h
theorem aq4 {L:RR} {z:Int} {i:Nat} {s:SR} {ss:List SR} (hL:L=ss.map cS) (hz:z=(i:Int)) (hs:ss[i]? = some s) {K:Nat→OR} (h:Wp (K i) Q) :
  Wp (aH (cm z) fun o8=>gd (decide (o8 < L.length)) (aH (L[0+o8]?) fun o9=>gd (decide (0+1+1+1+1+1+1+1+1+1≤o9.length)&&true) (cw [.any] (List.take 1 (List.drop 8 o9)) fun v10=>K o8))) Q:=by
 subst hL;have hi:i < ss.length:=(cA.1 hs).1;have hg:(ss.map cS)[0+i]? = some (cS s):=by rw [de,bQ,hs];rfl
 exact ig hz (aD (aX (by simpa using hi)) (fm hg (aD rfl (iA (v:=(.sl s.wt 3 s.ws,())) rfl h))))
theorem UC {L:RR} {z:Int} {i x:Nat} {s:SR} {ss:List SR} (hL:L=ss.map cS) (hz:z=(i:Int)) (hs:ss[i]? = some s) (hw:s.wt = .own) (hx:x=s.ws.length) (hl:s.ws.length≤1000) {K:Nat→RR→OR} (h:Wp (K i s.ws) Q) :
  Wp (aH (L[0+i]?) fun oW=>aH (oW[0+1+1+1+1+1+1+1+1]?) fun GH=>iY GH fun Hy td=>gd (Hy==3) (gd (x==td.length&&true&&decide ((td.length+1) * 40≤140737488355328)) (aH (cm z) fun nq=>gd (decide (nq < L.length)) (gd (Nat.beq (0+i) (0+nq)) (aH (L[0+i]?) fun GJ=>aH (GJ[0+1+1+1+1+1+1+1+1]?) fun GK=>iY GK fun Hz r33=>gd (Hz==3) (aH ((bY L (0+i) 8 D.dead)[0+nq]?) fun yc=>gd (decide (0+1+1+1+1+1+1+1+1+1≤yc.length)&&true) (cw [.any] (List.take 1 (List.drop 8 yc)) fun nG=>K nq td))))))) Q:=by
 subst hL;subst hx;have hi:i < ss.length:=(cA.1 hs).1;have hg:(ss.map cS)[0+i]? = some (cS s):=by rw [de,bQ,hs];rfl
 have h8:(cS s)[0+1+1+1+1+1+1+1+1]? = some (.sl .own 3 s.ws):=by
  show some (D.sl s.wt 3 s.ws)=_;rw [hw]
 have hr:(bY (ss.map cS) (0+i) 8 D.dead)[0+i]? = some ((cS s).set 8 .dead):=by
  have:(ss.map cS).getD (0+i) []=cS s:=by simp [List.getD,hs]
  unfold bY;rw [this];simp [hi]
 refine fm hg (fm h8 (UF (aD rfl (aD (ia (by omega) (by omega)) (ig hz (aD (aX (by simpa using hi)) (aD (Nat.beq_refl _) ?_)))))));exact fm hg (fm h8 (UF (aD rfl (fm hr (aD rfl (iA (v:=(.dead,())) rfl h))))))
theorem aeM {L:RR} {z:Int} {i:Nat} {s:SR} {ss:List SR} (hL:L=ss.map cS) (hz:z=(i:Int)) (hs:ss[i]? = some s) (hw:qU s.wt s.ws) (hl:s.ws.length≤1000) {K1:Nat→OR} {K2:Nat→Nat→RR→OR} (h1:s.ws=[]→Wp (K1 i) Q) (h2:Wp (K2 i i s.ws) Q) :
  Wp (aH (cm z) fun l7=>gd (decide (l7 < L.length)) (aH (L[0+l7]?) fun GL=>gd (decide (0+1+1+1+1+1+1+1+1+1≤GL.length)) (cw [.sl 3] (List.take 1 (List.drop 8 GL)) fun v37=>zZ v37.1.1 fun t38=>zM t38 (fun Em=>gd (Em&&true&&true) (aH (cm z) fun o8=>gd (decide (o8 < L.length)) (aH (L[0+o8]?) fun o9=>gd (decide (0+1+1+1+1+1+1+1+1+1≤o9.length)&&true) (cw [.any] (List.take 1 (List.drop 8 o9)) fun v10=>K1 o8)))) (aH (L[0+l7]?) fun oW=>aH (oW[0+1+1+1+1+1+1+1+1]?) fun GH=>iY GH fun Hy td=>gd (Hy==3) (gd (v37.1.2.length==td.length&&true&&decide ((td.length+1) * 40≤140737488355328)) (aH (cm z) fun nq=>gd (decide (nq < L.length)) (gd (Nat.beq (0+l7) (0+nq)) (aH (L[0+l7]?) fun GJ=>aH (GJ[0+1+1+1+1+1+1+1+1]?) fun GK=>iY GK fun Hz r33=>gd (Hz==3) (aH ((bY L (0+l7) 8 D.dead)[0+nq]?) fun yc=>gd (decide (0+1+1+1+1+1+1+1+1+1≤yc.length)&&true) (cw [.any] (List.take 1 (List.drop 8 yc)) fun nG=>K2 l7 nq td)))))))))) Q:=by
 have fh:=hL;subst hL;have hi:i < ss.length:=(cA.1 hs).1;have hg:(ss.map cS)[0+i]? = some (cS s):=by rw [de,bQ,hs];rfl
 have hd:eb [.sl 3] (List.take 1 (List.drop 8 (cS s)))=some ((s.wt,s.ws),()):=rfl;refine ig hz (aD (aX (by simpa using hi)) (fm hg (aD rfl (iA hd ?_))));rcases hw with hw | ⟨hw,mC⟩
 ·rw [hw];exact jc (UC rfl hz hs hw rfl hl h2)
 ·rw [hw];exact eZ (aD rfl (aq4 rfl hz hs (h1 mC)))
theorem yg {s:SR} (h:nV s) {w:WR} (hl:s.ws.length < 100):nV { s with wt:=.own,ws:=s.ws++[cW w] } := by
 obtain ⟨h1,h2,⟨l,h3,h3'⟩,h4⟩:=h;refine ⟨h1,h2,⟨l++[w],by simp [h3],?_⟩,.inl rfl⟩;rw [h3] at hl;simp at hl ⊢;omega
theorem WH.set {i:Nat} {s:SR} (h:WH N tt tm .own ss nz rm) (hs:nV s) {t:Tag} (ht:t = .own):WH N tt tm t (ss.set i s) nz rm:=by
 have mB:=h.se rfl;refine ⟨h.ot,.inl ht,h.nt,by have:=h.ns;simpa using this,h.kT,?_,h.n0,h.r1,h.r2,h.te,fun _=>by simpa using mB⟩;intro x hx;rcases Va hx with hx | hx
 ·exact h.kS x hx
 ·subst hx;exact hs
theorem uM {X:Type} {l x:List X} {a b:X}:((l++[a])++x).set l.length b=(l++[b])++x:=by
 rw [ej,ej,List.set_append_right _ _ (by omega)];simp
theorem BU {X:Type} {l x:List X} {a:X}:((l++[a])++x)[l.length]? = some a:=by
 rw [ej,pX (by omega)];simp
theorem aqE (hm:120≤m) (hN:N≤50000000) (H:WH N tt tm st ss nz rm) (hd:cB d) {K:lG.T→OR}
  (h:∀dE ss' gS d',WH (N+12) .own dE .own ss' nz gS→(∃x,ss'=ss++x∧1≤x.length)→cB d'→Wp (K ((),W k .own dE .own ss' nz gS,d',())) Q):Wp (WA (T m) (W k tt tm st ss nz rm) d K) Q:=by
 obtain ⟨m,rfl⟩:=bl 2 m;have hl:=H.nt;have hs:=H.ns;have r1:=H.r1;have r2:=H.r2;have rest:∀(s0:SR) (x0:au aR) (x1:au ak) (a2:au eB) (z:Int) (yE:List TM),nV s0→s0.wt = .im true→s0.ws=[]→WH (N+4) .own yE .own (ss++[s0]) nz (rm - 1)→
   Wp (Ru (T (m+1)) (m+1) x0 x1 (m+1) (Wr k .own (yE.map bz) .own (bY ((ss++[s0]).map cS) (0+ss.length) 8 (.sl .own 3 [[.str [],.str [],.int .i64 z]])) nz (rm - 1)) d a2 (ss.length:Int)) (J lG K Q):=by
  intro s0 x0 x1 a2 z yE oP hw0 zV H3;have e1:(ss++[s0]).set ss.length { s0 with wt:=.own,ws:=[cW ⟨[],[],z⟩] } = ss++[{ s0 with wt:=.own,ws:=[cW ⟨[],[],z⟩] }]:=by
   have:=uM (l:=ss) (x:=[]) (a:=s0) (b:={ s0 with wt:=.own,ws:=[cW ⟨[],[],z⟩] });simpa using this
  rw [MB (s:=s0) (by simp)];have OV:(ss++[s0]).set ss.length { s0 with wt:=.own,ws:=[[D.str [],D.str [],D.int .i64 z]] } = ss++[{ s0 with wt:=.own,ws:=[cW ⟨[],[],z⟩] }]:=e1;rw [OV];have kx:nV { s0 with wt:=.own,ws:=[cW ⟨[],[],z⟩] } := by
   have:=yg oP (w:=⟨[],[],z⟩) (by rw [zV];simp);rw [zV] at this;exact this
  have H4:WH (N+4) .own yE .own (ss++[{ s0 with wt:=.own,ws:=[cW ⟨[],[],z⟩] }]) nz (rm - 1):=by
   have:=H3.set (i:=ss.length) kx (t:=.own) rfl;rw [e1] at this;exact this
  generalize hS:({ s0 with wt:=.own,ws:=[cW ⟨[],[],z⟩] }:SR)=s1 at kx H4;have mC:s1.wt = .own:=by subst hS;rfl
  have vP:s1.ws.length=1:=by subst hS;rfl
  have l4:=H4.nt;have l5:=H4.ns;refine aC ak2 (mQ (m:=m+1) (by omega) ?_);refine rZ (m:=m+1) (k:=k) (ss:=ss++[s1]) (by omega) (by omega) (.inl rfl) ?_;refine aqL (m:=m+1) (k:=k) (by omega) (by simp;omega) (.inl rfl) (qE H4.kT ⟨.inl rfl,rfl,rfl,ja⟩) fun y MN hT4 Js=>?_
  have Zn:MN.length=yE.length+4:=by rw [Js];simp
  have H5:=H4.terms (M:=N+8) (dE:=MN) (by omega) (by have:=H3.nt;omega) hT4 (by intro h0;rw [h0] at Zn;simp at Zn);refine wL (m:=m+1) (k:=k) (by omega) (by omega) (.inl rfl) (by omega) (by omega) ?_;have H6:=H5.step (s:=⟨6,[],[],[],k.self,-1,false,[[.int .i64 (yE.length:Int)],[.int .i64 y]],true,[],.im true,[],-1⟩) ⟨⟨[_,_],rfl,by simp⟩,⟨[],rfl,by simp,by simp⟩,⟨[],rfl,by simp⟩,.inr ⟨rfl,rfl⟩⟩;refine M5 (m:=m+1) (k:=k) (by omega) (N:=N+9) (by omega) H6 fun oe Dv H7 ⟨x,hx,vQ⟩=>jc ?_
  have eP:oe[ss.length]? = some s1:=by
   rw [hx,ej];exact BU
  have af:ss.length < oe.length:=(cA.1 eP).1;refine ig rfl (aD (aX (by simpa [W] using af)) (fm (b:=cS s1) (by show (oe.map cS)[0+ss.length]? = _;rw [de,bQ,eP];rfl) (aD rfl (iA (v:=(s1.ws,())) ?_ ?_))))
  ·show eb [.own 3] [.sl s1.wt 3 s1.ws]=_;rw [mC];rfl
  refine UC (ss:=oe) (s:=s1) rfl rfl eP mC rfl (by omega) (az ?_);refine aE (x:=((),W k .own MN .own (oe.set ss.length { s1 with wt:=.own,ws:=s1.ws++[cW ⟨[],[],((((ss++[s1])++[(⟨6,[],[],[],k.self,-1,false,[[.int .i64 (yE.length:Int)],[.int .i64 y]],true,[],.im true,[],-1⟩:SR)]).length:Nat):Int)⟩] }) nz Dv,d,())) ?_ (h _ _ _ _ ((H7.set (yg kx (by omega)) rfl).le (by omega)) ?_ hd)
  ·show gW lG (.aq [],[bx aR (Wr k .own (MN.map bz) .own (bY (bY (oe.map cS) (0+ss.length) 8 .dead) (0+ss.length) 8 (.sl .own 3 (s1.ws++[cW ⟨[],[],((((ss++[s1])++[(⟨6,[],[],[],k.self,-1,false,[[.int .i64 (yE.length:Int)],[.int .i64 y]],true,[],.im true,[],-1⟩:SR)]).length:Nat):Int)⟩]))) nz Dv),bx ak d])=_;rw [MA eP];rfl
  ·rw [hx,ej _ _ x,uM];exact ⟨_,ej _ _ _,by simp⟩
 refine bJ agB (mQ (m:=m+1) (by omega) ?_);refine w_num (m:=m+1) (k:=k) (by omega) (by omega) H.ot ?_;refine rZ (m:=m+1) (k:=k) (by omega) (by simp;omega) (.inl rfl) ?_;refine yI (m:=m+1) (k:=k) (by omega) (by simp;omega) (.inl rfl) ?_;have H2:=H.terms (M:=N+3) (dE:=_) (by omega) (by simp;omega) (yh (x:=⟨1,[],0,[],-1,-1⟩) (y:=⟨0,[110],0,[],-1,-1⟩) (c:=12) H.kT ⟨.inr (.inl rfl),rfl,rfl,ja⟩ ⟨.inl rfl,rfl,rfl,ja⟩ (.inr (.inr (.inr (.inl rfl)))) (.inl (by decide)));refine wL (m:=m+1) (k:=k) (by omega) (by omega) H.os (by omega) (by omega) ?_;refine aeL (i:=ss.length) (s:=⟨3,[],[],[],[],((tm++[(⟨1,[],0,[],-1,-1⟩:TM)]++[(⟨0,[110],0,[],-1,-1⟩:TM)]).length:Int),true,[],true,[],.im true,[],-1⟩) rfl rfl (by simp) rfl ?_;exact rest _ _ _ _ _ _ nW rfl rfl (H2.step nW)
end
end
section
open Go Go.ax QQ
structure RL (k:WK) (L:LR):Prop where
 i:∃r:Nat,k.role=(r:Int)∧k.ty[r]? = some L
 l1:1≤L.ts.length
 l2:L.ts.length≤100
 ok:∀t∈L.ts,GU L.ts.length t
def HQ (k:WK) (M:Nat) (ss:List SR) (K:lG.T→OR) (Q:V→List (List C)→Prop):Prop:=
 ∀lj dE ss' oV gS d',WH M lj dE .own ss' oV gS→(∃x,ss'=ss++x∧1≤x.length)→cB d'→Wp (K ((),W k lj dE .own ss' oV gS,d',())) Q
def Bd:Nat→Nat
 | 0=>20
 | e+1=>11 * Bd e+300
def uY (e:Nat):Prop:=∀(m N:Nat) (k:WK) (L:LR) (tt st:Tag) (tm:List TM) (ss:List SR) (nz rm:Int) (d:au ak) (oh:Nat) (K:lG.T→OR) (Q:V→List (List C)→Prop),
 200+20 * e≤m→N+Bd e≤40000000→KH k→RL k L→oh < L.ts.length→WH N tt tm st ss nz rm→cB d→HQ k (N+Bd e) ss K Q→Wp (Eu (T m) (oh:Int) ((5 - e:Nat):Int) (W k tt tm st ss nz rm) d K) Q
section
variable {m N e:Nat} {Q:V→List (List C)→Prop} {k:WK} {L:LR} {tt st:Tag} {tm:List TM} {ss:List SR} {nz rm:Int} {d:au ak}
def HU (k:WK) (M:Nat) (ss:List SR) (z:Int) (K:uK.T→OR) (Q:V→List (List C)→Prop):Prop:=
 ∀lj dE ss' oV gS d',WH M lj dE .own ss' oV gS→(∃x,ss'=ss++x∧1≤x.length)→cB d'→Wp (K (z,W k lj dE .own ss' oV gS,d',())) Q
theorem ON (he:e≤4):ao (((4 - e:Nat):Int)+1)=((5 - e:Nat):Int):=by
 rw [show (((4 - e:Nat):Int)+1)=((5 - e:Nat):Int) by omega];exact gF rfl (by omega)
theorem adf (hB:uY e) (he:e≤4) (hm:205+20 * e≤m) (hN:N+1+Bd e≤40000000) (hk:KH k) (hL:RL k L) {nx:Nat} (hx:nx < L.ts.length) (H:WH N tt tm st ss nz rm) (hd:cB d) {x3:au aR} {x4:au ak} {z:Int} {a4:au jB} {q1:BB} {q2:Int} {q3:BB} {y1 y2:BB} {tz:Int} {K:uK.T→OR}
  (h:HU k (N+1+Bd e) ss z K Q) :
  Wp (CP (T m) m x3 x4 m ((4 - e:Nat):Int) (W k tt tm st ss nz rm) d z a4 (q1,q2,q3,(nx:Int),()) (4,[99],y1,y2,[],tz,(true,[]),(true,[]),(true,[]),-1,())) (J uK K Q):=by
 obtain ⟨j,hj⟩:=bl 1 m;have r1:=H.r1;have r2:=H.r2;have hs:=H.ns;have e1:∀w:Nat,CP (T m) m x3 x4 m ((4 - e:Nat):Int)=CP (T m) m x3 x4 (j+1) ((4 - e:Nat):Int):=fun _=>by rw [←hj]
 rw [e1 0];refine aC alg ?_;refine uS (m:=m) (k:=k) (by omega) (by omega) H.os (by omega) (by omega) ?_;rw [ON he];refine hB m (N+1) k L tt .own tm _ nz (rm - 1) d nx _ _ (by omega) (by omega) hk hL hx (H.step nW) hd fun lj dE ss' oV gS d' H' vR dy=>az ?_
 obtain ⟨x,rfl,vQ⟩:=vR;exact aE rfl (h _ _ _ _ _ _ H' ⟨_,ej _ _ _,by simp⟩ dy)
theorem apy (hB:uY e) (he:e≤4) (hm:205+20 * e≤m) (hN:N+1+Bd e≤40000000) (hk:KH k) (hL:RL k L) {nx:Nat} (hx:nx < L.ts.length) (H:WH N tt tm st ss nz rm) (hd:cB d) {x3:au aR} {x4:au ak} {z:Int} {a4:au jB} {q1:BB} {q2:Int} {q3:BB} {y1 y2:BB} {tz:Int} {a7:au dW} {K:uK.T→OR}
  (h:HU k (N+1+Bd e) ss z K Q) :
  Wp (Ga (T m) m x3 x4 m ((4 - e:Nat):Int) (W k tt tm st ss nz rm) d z a4 (q1,q2,q3,(nx:Int),()) (4,[99],y1,y2,[],tz,(true,[]),(true,[]),(true,[]),-1,()) a7) (J uK K Q):=by
 obtain ⟨j,hj⟩:=bl 1 m;have r1:=H.r1;have r2:=H.r2;have hs:=H.ns;have e1:∀w:Nat,Ga (T m) m x3 x4 m ((4 - e:Nat):Int)=Ga (T m) m x3 x4 (j+1) ((4 - e:Nat):Int):=fun _=>by rw [←hj]
 rw [e1 0];refine aC alh ?_;refine uS (m:=m) (k:=k) (by omega) (by omega) H.os (by omega) (by omega) ?_;rw [ON he];refine hB m (N+1) k L tt .own tm _ nz (rm - 1) d nx _ _ (by omega) (by omega) hk hL hx (H.step nW) hd fun lj dE ss' oV gS d' H' vR dy=>az ?_
 obtain ⟨x,rfl,vQ⟩:=vR;exact aE rfl (h _ _ _ _ _ _ H' ⟨_,ej _ _ _,by simp⟩ dy)
theorem Uy (hB:uY e) (he:e≤4) (hm:208+20 * e≤m) (hN:N+20+Bd e≤40000000) (hk:KH k) (hL:RL k L) {oh arm:Nat} {t:TN} (ht:L.ts[oh]? = some t) (ha:arm < t.ms.length) (H:WH N tt tm st ss nz rm) (hd:cB d) {K:uK.T→OR}
  (h:HU k (N+20+Bd e) ss (ss.length:Int) K Q):Wp (c145 (T m) (oh:Int) (arm:Int) ((4 - e:Nat):Int) (W k tt tm st ss nz rm) d K) Q:=by
 obtain ⟨m,rfl⟩:=cG hm;have hn:ae (ss.map cS).length=(ss.length:Int):=by rw [bI];simp
 rw [←hn] at h;have hl:=H.nt;have hs:=H.ns;obtain ⟨r,jX,qx⟩:=hL.i;have hga:t.ms[arm]? = some t.ms[arm]:=gE ha;have vO:t∈L.ts:=fp ht;have Cj:t.ms[arm].nx < L.ts.length:=by
  rcases hL.ok t vO with ⟨_,h2⟩ | ⟨_,_,_,h2⟩
  ·rw [h2] at ha;simp at ha
  ·exact h2 _ (bM ha)
 have mono:∀{M:Nat},M+1+Bd e≤N+20+Bd e→∀{wE:List SR},(∃x,wE=ss++x)→HU k (M+1+Bd e) wE (ae (ss.map cS).length) K Q:=by
  intro M hM wE ⟨x,hx⟩ lj dE ss' oV gS d' H' ⟨y,hy,zX⟩ dy;exact h _ _ _ _ _ _ (H'.le hM) ⟨x++y,by rw [hy,hx,ej],by simp;omega⟩ dy
 have self:∃x,ss=ss++x:=⟨[],by simp⟩
 refine bJ agU ?_;rcases H.os with bA | ⟨bA,Cr⟩<;>subst bA
 all_goals (
   first | refine jc ?_ | refine eZ ?_
   refine aM Tj jX qx ?_
   refine aM Tk rfl ht ?_
   refine aM (enc := cM) (f := fun a => (a.mF, a.kd, a.nm, (a.nx : Int), ())) (fun a => ⟨by simp [cM], rfl⟩) rfl hga ?_
   refine mQ (m := m) (by omega) (ai (fun h1 => ?_) (fun h1 => ai (fun h2 => ?_) (fun h2 => ?_)))
   · exact adf (k := k) hB he (by omega) (by omega) hk hL Cj H hd (mono (by omega) self)
   · refine aeH (m := m) (k := k) (by omega) hk fun p hp ro zS => ?_
     refine Ux (m := m) (k := k) (by omega) (N := N) (by omega) H hd (hk.p2 p hp) fun s tv rU wE sZ tf d1 H1 vQ cq => ?_
     have l1 := H1.nt
     refine rZ (m := m) (k := k) (by omega) (by omega) H1.ot ?_
     exact apy (k := k) hB he (by omega) (N := N + 13) (by omega) hk hL Cj (H1.terms (by omega) (by simp; omega) (qE H1.kT ⟨.inl rfl, rfl, rfl, ja⟩)) cq (mono (by omega) vQ)
   · refine aqH (m := m) (k := k) (by omega) (by omega) H hd fun z rU d1 hT1 jJ ajT cq => ?_
     exact adf (k := k) hB he (by omega) (N := N + 3) (by omega) hk hL Cj (H.terms (by omega) (by omega) hT1 ajT) cq (mono (by omega) self))
end
end
section
open Go Go.ax QQ
section
variable {m N e:Nat} {Q:V→List (List C)→Prop} {k:WK} {L:LR} {tt st:Tag} {tm:List TM} {ss:List SR} {nz rm:Int} {d:au ak}
theorem Y9 (hB:uY e) (he:e≤4) (q:Nat) (hq:205+20 * e≤q) (hk:KH k) (hL:RL k L) {M:Nat} (hM:M≤40000000) {t:TN} (ht:t∈L.ts) (xA:t.ms.length≤10) {x2:au aR} {x3:au ak} {K:lG.T→OR}
  (h:HQ k M ss K Q):∀(c i N:Nat) (tt:Tag) (tm:List TM) (s:SR) (x:List SR) (nz rm:Int) (d:au ak),c≤q→t.ms.length - i < c→i≤t.ms.length→N+(t.ms.length - i) * (Bd e+10)+10≤M→nV s→s.ws.length≤i→WH N tt tm .own ((ss++[s])++x) nz rm→cB d→
   Wp (CN (T q) q x2 x3 c ((4 - e:Nat):Int) (W k tt tm .own ((ss++[s])++x) nz rm) d (t.kd,t.pr,(t.t,t.ms.map cM),()) (ss.length:Int) (i:Int)) (J lG K Q)
 | 0,i,N,tt,tm,s,x,nz,rm,d,_,hc,_,_,_,_,_,_=>by omega
 | c+1,i,N,tt,tm,s,x,nz,rm,d,E7,hc,hi,hN,hs,hw,H,hd=>by
  have ls:=H.ns;have lt:=H.nt;have r1:=H.r1;have r2:=H.r2;refine aC ak8 (ai (fun h1=>?_) (fun h1=>?_))
  ·have af:i < t.ms.length:=bN h1;have hN':N+(Bd e+10)+(t.ms.length - (i+1)) * (Bd e+10)+10≤M:=by
    have:(t.ms.length - i)=(t.ms.length - (i+1))+1:=by omega
    rw [this,Nat.succ_mul] at hN;omega
   have hg:t.ms[i]? = some t.ms[i]:=gE af;have Cj:t.ms[i].nx < L.ts.length:=by
    rcases hL.ok t ht with ⟨_,h2⟩ | ⟨_,_,_,h2⟩
    ·rw [h2] at af;simp at af
    ·exact h2 _ (bM af)
   have Ql:(t.ms.map cM)[i]? = some (cM t.ms[i]):=by rw [bQ,hg];rfl
   have JH:=wI i;have rest:∀(tv:Tag) (rU:List TM) (DJ:Tag) (x1:List SR) (sZ tf:Int) (d1:au ak) (y1 y2:BB) (y3:Int),WH (N+5) tv rU DJ ((ss++[s])++x1) sZ tf→cB d1→
     Wp (CO (T q) q x2 x3 c q ((4 - e:Nat):Int) (W k tv rU DJ ((ss++[s])++x1) sZ tf) d1 (t.kd,t.pr,(t.t,t.ms.map cM),()) (ss.length:Int) (i:Int) (y1,y2,y3,())) (J lG K Q):=by
    intro tv rU DJ x1 sZ tf d1 y1 y2 y3 H1 cq;obtain ⟨j,hj⟩:=bl 1 q;have e1:CO (T q) q x2 x3 c q ((4 - e:Nat):Int)=CO (T q) q x2 x3 c (j+1) ((4 - e:Nat):Int):=by rw [←hj]
    rw [e1];refine aC ak9 ?_;refine aM yo rfl hg ?_;rw [ON he];refine hB q (N+5) k L tv DJ rU _ sZ tf d1 _ _ _ (by omega) (by omega) hk hL Cj H1 cq fun DQ DK yD nz2 Du d2 H2 vR eO=>jc ?_
    obtain ⟨y,hy,zX⟩:=vR;have fQ:yD=(ss++[s])++(x1++y):=by rw [hy];simp
    have eP:yD[ss.length]? = some s:=by rw [fQ];exact BU
    rw [JH];have di:∀(s2:SR),nV s2→s2.ws.length≤i+1→Wp (CN (T q) q x2 x3 c ((4 - e:Nat):Int) (Wr k DQ (DK.map bz) .own ((yD.set ss.length s2).map cS) nz2 Du) d2 (t.kd,t.pr,(t.t,t.ms.map cM),()) (ss.length:Int) ((i+1:Nat):Int)) (J lG K Q):=by
     intro s2 lS mC;have H3:=H2.set (i:=ss.length) lS (t:=.own) rfl;rw [fQ,uM] at H3 ⊢;exact Y9 hB he q hq hk hL hM ht xA h c (i+1) (N+(Bd e+10)) DQ DK s2 (x1++y) nz2 Du d2 (by omega) (by omega) (by omega) hN' lS mC (H3.le (by omega)) eO
    refine aeM (ss:=yD) (s:=s) rfl rfl eP hs.2.2.2 (by omega) (fun h0=>?_) ?_
    ·have:=yg hs (w:=⟨y1,y2,y3⟩) (by omega);rw [h0] at this;have g:=di _ this (by simp);rw [←MB eP] at g;exact g
    ·have g:=di _ (yg hs (w:=⟨y1,y2,y3⟩) (by omega)) (by simp;omega);rw [←MA eP] at g;exact g
   refine aM Ds rfl hg (jc ?_);refine ig rfl (fm Ql (aD rfl (iA (v:=(t.ms[i].kd,())) rfl (ai (fun h2=>?_) (fun h2=>?_)))))
   ·obtain ⟨z,rfl,hz⟩:=H.n0;refine aes (m:=q) (k:=k) (by omega) (by omega) fun y g1 g2=>?_
    refine aM G3 rfl hg ?_;refine aq1 (m:=q) (k:=k) (by omega) (N:=N+1) (by omega) H.fresh hk hd fun tv rU DJ wE tf d1 H1 vR cq=>?_
    obtain ⟨y2,rfl⟩:=vR;have:=rest tv rU DJ (x++y2) _ tf d1 t.ms[i].mF y (ae (((ss++[s])++x).map cS).length) (by rw [←ej];exact H1.le (by omega)) cq;rw [←ej] at this;exact this
   ·exact rest tt tm .own x nz rm d _ _ _ (H.le (by omega)) hd
  ·refine jR (m:=q) (n:=3) (by omega) (by omega) (by omega) hd fun j d1 hj cq=>ai (fun h2=>jc ?_) (fun h2=>?_)
   ·refine mQ (m:=q) (by omega) (AU (m:=q) (k:=k) (by omega) (by omega) H.ot ?_);refine uS (m:=q) (k:=k) (by omega) (by omega) H.os (by omega) (by omega) (mQ (m:=q) (by omega) ?_);have H2:=H.terms (M:=N+1) (dE:=tm++[(⟨3,[],0,[108,111,115,116],-1,-1⟩:TM)]) (by omega) (by simp;omega) (qE H.kT ⟨.inr (.inr (.inl rfl)),rfl,rfl,ja⟩);refine wL (m:=q) (k:=k) (by omega) (by simp at ls ⊢;omega) (.inl rfl) (by omega) (by omega) ?_;have H3:=(H2.step (s:=⟨2,[],[],[],[],(tm.length:Int),true,[],true,[],.im true,[],((((ss++[s])++x).length+1:Nat):Int)⟩) nW).step (s:=⟨0,[],[],[],[],-1,true,[],true,[],.im true,[],-1⟩) nW;have fin:∀(s2:SR) (x2:List SR),nV s2→WH (N+1+1+1) .own (tm++[(⟨3,[],0,[108,111,115,116],-1,-1⟩:TM)]) .own ((ss++[s2])++x2) nz (rm - 1 - 1)→Wp (K ((),W k .own (tm++[(⟨3,[],0,[108,111,115,116],-1,-1⟩:TM)]) .own ((ss++[s2])++x2) nz (rm - 1 - 1),d1,())) Q:=
     fun s2 x2 lS H5=>h _ _ _ _ _ _ (H5.le (by omega)) ⟨_,ej _ _ _,by simp⟩ cq
    generalize ZY:(⟨2,[],[],[],[],(tm.length:Int),true,[],true,[],.im true,[],((((ss++[s])++x).length+1:Nat):Int)⟩:SR)=sa at H3;generalize JK:(⟨0,[],[],[],[],-1,true,[],true,[],.im true,[],-1⟩:SR)=sb at H3;have eP:(((ss++[s])++x)++[sa]++[sb])[ss.length]? = some s:=by
     rw [show ((ss++[s])++x)++[sa]++[sb]=(ss++[s])++(x++[sa]++[sb]) by simp];exact BU
    have di:∀(s2:SR),nV s2→Wp (aG lG (some (.aq [],[bx aR (Wr k .own ((tm++[(⟨3,[],0,[108,111,115,116],-1,-1⟩:TM)]).map bz) .own (((((ss++[s])++x)++[sa]++[sb]).set ss.length s2).map cS) nz (rm - 1 - 1)),bx ak d1])) K) Q:=by
     intro s2 lS;have H4:=H3.set (i:=ss.length) lS (t:=.own) rfl;rw [show ((ss++[s])++x)++[sa]++[sb]=(ss++[s])++(x++[sa]++[sb]) by simp,uM] at H4 ⊢;exact aE rfl (fin s2 _ lS H4)
    subst ZY JK;refine aeM (s:=s) rfl rfl eP hs.2.2.2 (by omega) (fun h0=>az ?_) (az ?_)
    ·have:=yg hs (w:=⟨[],[],ae (((ss++[s])++x).map cS).length⟩) (by omega);rw [h0] at this;have g:=di _ this;rw [←MB eP] at g;exact g
    ·have g:=di _ (yg hs (w:=⟨[],[],ae (((ss++[s])++x).map cS).length⟩) (by omega));rw [←MA eP] at g;exact g
   ·exact az (aE rfl (h _ _ _ _ _ _ (H.le (by omega)) ⟨[s]++x,by simp,by simp⟩ cq))
theorem aqJ (hB:uY e) (he:e≤4) (hm:208+20 * e≤m) (hN:N+11 * Bd e+200≤40000000) (hk:KH k) (hL:RL k L) {oh:Nat} {t:TN} (ht:L.ts[oh]? = some t) (H:WH N tt tm st ss nz rm) (hd:cB d) {K:lG.T→OR}
  (h:HQ k (N+11 * Bd e+200) ss K Q):Wp (c143 (T m) (oh:Int) ((4 - e:Nat):Int) (W k tt tm st ss nz rm) d K) Q:=by
 obtain ⟨m,rfl⟩:=cG hm;have hs:=H.ns;have r1:=H.r1;have r2:=H.r2;obtain ⟨r,jX,qx⟩:=hL.i;have vO:t∈L.ts:=fp ht;have xA:t.ms.length≤10:=by
  rcases hL.ok t vO with ⟨_,h2⟩ | ⟨_,_,h2,_⟩
  ·rw [h2];simp
  ·exact h2
 refine bJ agK ?_;refine aM Tj jX qx ?_;refine aM Tk rfl ht ?_;refine mQ (m:=m) (by omega) (wL (m:=m) (k:=k) (by omega) (by omega) H.os (by omega) (by omega) ?_);have hNN:N+1+(t.ms.length - 0) * (Bd e+10)+10≤N+11 * Bd e+200:=by
  have:(t.ms.length - 0) * (Bd e+10)≤10 * (Bd e+10):=p6 _ (by omega);omega
 have:=Y9 hB he m (by omega) hk hL hN vO xA h m 0 (N+1) tt tm ⟨5,[99],t.pr,[],[],-1,true,[],true,[],.im true,[],-1⟩ [] nz (rm - 1) d (by omega) (by omega) (by omega) hNN nW (by simp) (by rw [mR];exact H.step nW) hd (x2:=W k tt tm st ss nz rm) (x3:=d);rw [mR] at this;exact this
end
end
section
open Go Go.ax QQ
section
variable {m N e:Nat} {Q:V→List (List C)→Prop} {k:WK} {L:LR} {tt st:Tag} {tm:List TM} {ss:List SR} {nz rm:Int} {d:au ak}
theorem Vq:∀e,20≤Bd e
 | 0=>by decide
 | e+1=>by have:=Vq e;unfold Bd;omega
theorem afo (hB:uY e) (he:e≤4) (hm:210+20 * e≤m) (hN:N+30+Bd e≤40000000) (hk:KH k) (hL:RL k L) {oh arm:Nat} {t:TN} (ht:L.ts[oh]? = some t) (ha:arm < t.ms.length)
  {s0:SR} {x:List SR} {z:Int} (oP:nV s0) (hw0:s0.wt = .im true) (zV:s0.ws=[]) (H:WH N tt tm .own ((ss++[s0])++x) nz rm) (hd:cB d) {x2:au aR} {x3:au ak} {a4:au jB} {a5:au eB} {K:lG.T→OR}
  (h:HQ k (N+20+Bd e) ss K Q) :
  Wp (Ac (T m) m x2 x3 m (oh:Int) ((4 - e:Nat):Int) (Wr k tt (tm.map bz) .own (bY (((ss++[s0])++x).map cS) (0+ss.length) 8 (.sl .own 3 [[.str [],.str [],.int .i64 z]])) nz rm) d a4 a5 (ss.length:Int) (arm:Int)) (J lG K Q):=by
 obtain ⟨j,hj⟩:=bl 1 m;have e1:Ac (T m) m x2 x3 m=Ac (T m) m x2 x3 (j+1):=by rw [←hj]
 rw [e1,MB (s:=s0) BU];have kx:nV { s0 with wt:=.own,ws:=[[D.str [],D.str [],D.int .i64 z]] } := by
  have:=yg oP (w:=⟨[],[],z⟩) (by rw [zV];simp);rw [zV] at this;exact this
 have H2:=H.set (i:=ss.length) kx (t:=.own) rfl;rw [uM] at H2 ⊢;generalize hS:({ s0 with wt:=.own,ws:=[[D.str [],D.str [],D.int .i64 z]] }:SR)=s1 at kx H2;have mC:s1.wt = .own:=by subst hS;rfl
 have vP:s1.ws.length=1:=by subst hS;rfl
 refine aC ak5 ?_;refine Uy (m:=m) (k:=k) (ss:=(ss++[s1])++x) hB he (by omega) (N:=N) (by omega) hk hL ht ha H2 hd fun Uk Ud oe Sm Dv d5 H7 ⟨y,hy,zX⟩ E9=>jc ?_
 have eP:oe[ss.length]? = some s1:=by rw [hy,ej];exact BU
 have af:ss.length < oe.length:=(cA.1 eP).1;refine ig rfl (aD (aX (by simpa [W] using af)) (fm (b:=cS s1) (by show (oe.map cS)[0+ss.length]? = _;rw [de,bQ,eP];rfl) (aD rfl (iA (v:=(s1.ws,())) ?_ ?_))))
 ·show eb [.own 3] [.sl s1.wt 3 s1.ws]=_;rw [mC];rfl
 refine UC (ss:=oe) (s:=s1) rfl rfl eP mC rfl (by omega) (az ?_);refine aE (x:=((),W k Uk Ud .own (oe.set ss.length { s1 with wt:=.own,ws:=s1.ws++[cW ⟨[],[],((((ss++[s1])++x).length:Nat):Int)⟩] }) Sm Dv,d5,())) ?_ (h _ _ _ _ _ _ ((H7.set (yg kx (by omega)) rfl).le (by omega)) ?_ E9)
 ·show gW lG (.aq [],[bx aR (Wr k Uk (Ud.map bz) .own (bY (bY (oe.map cS) (0+ss.length) 8 .dead) (0+ss.length) 8 (.sl .own 3 (s1.ws++[cW ⟨[],[],((((ss++[s1])++x).length:Nat):Int)⟩]))) Sm Dv),bx ak d5])=_;rw [MA eP];rfl
 ·rw [hy,ej _ x y,uM];exact ⟨_,ej _ _ _,by simp⟩
theorem Wd (e:Nat) (he:e≤5) (hp:∀e',e=e'+1→uY e'):uY e:=by
 intro m N k L tt st tm ss nz rm d oh K Q hm hN hk hL htu H hd h;obtain ⟨m,rfl⟩:=cG hm;obtain ⟨r,jX,qx⟩:=hL.i;have ht:L.ts[oh]? = some L.ts[oh]:=gE htu;generalize L.ts[oh]=t at ht;have vO:t∈L.ts:=fp ht;have hb:=Vq e;have ls:=H.ns;have lt:=H.nt;have r1:=H.r1;have r2:=H.r2;refine bJ agF ?_;refine aM Tj jX qx ?_;refine aM Tk rfl ht (ai (fun h1=>?_) (fun h1=>?_))
 ·refine M5 (m:=m) (k:=k) (by omega) (N:=N) (by omega) H fun ss' gS H' hx=>az ?_
  exact aE rfl (h _ _ _ _ _ _ (H'.le (by omega)) hx hd)
 have nQ:t.kd≠0:=by simpa using h1
 have xA:1≤t.ms.length:=by
  rcases hL.ok t vO with ⟨h2,_⟩ | ⟨_,h2,_,_⟩
  ·exact absurd h2 nQ
  ·exact h2
 have arx:t.ms.length≤10:=by
  rcases hL.ok t vO with ⟨h2,_⟩ | ⟨_,_,h2,_⟩
  ·exact absurd h2 nQ
  ·exact h2
 refine ai (fun h2=>ai (fun h3=>ai (fun h4=>?_) (fun h4=>?_)) (fun h3=>?_)) (fun h2=>?_)
 ·refine aqE (m:=m) (k:=k) (by omega) (N:=N) (by omega) H hd fun dE ss' gS d' H' hx dy=>az ?_
  exact aE rfl (h _ _ _ _ _ _ (H'.le (by omega)) hx dy)
 all_goals (
   refine ai (fun h5 => ?_) (fun h5 => ai (fun h6 => ?_) (fun h6 => ?_))
   · refine M5 (m := m) (k := k) (by omega) (N := N) (by omega) H fun ss' gS H' hx => az ?_
     exact aE rfl (h _ _ _ _ _ _ (H'.le (by omega)) hx hd)
   · refine M5 (m := m) (k := k) (by omega) (N := N) (by omega) H fun ss' gS H' hx => az ?_
     exact aE rfl (h _ _ _ _ _ _ (H'.le (by omega)) hx hd)
   cases e with
   | zero => exact absurd h6 (by decide)
   | succ e =>
     have hB := hp e rfl
     rw [show 5 - (e + 1) = 4 - e by omega]
     have hbe : Bd (e + 1) = 11 * Bd e + 300 := rfl
     have say : ∀ {d1 : au ak} (j : Nat), j < (t.ms.map cM).length → cB d1 → Wp (c145 (T m) (oh : Int) (j : Int) ((4 - e : Nat) : Int) (W k tt tm st ss nz rm) d1 fun fc => (some ((.aq []), [(bx aR fc.2.1), (bx ak fc.2.2.1)]))) (J lG K Q) := by
       intro d1 j hj cq
       refine Uy (m := m) (k := k) hB (by omega) (by omega) (N := N) (by omega) hk hL ht (by simpa using hj) H cq fun lj dE ss' oV gS d' H' hx dy => az ?_
       exact aE rfl (h _ _ _ _ _ _ (H'.le (by omega)) hx dy)
     refine ai (fun h7 => ?_) (fun h7 => ai (fun h8 => ai (fun h9 => ?_) (fun h9 => ?_)) (fun h8 => ?_))
     · refine aqJ (m := m) (k := k) hB (by omega) (by omega) (N := N) (by omega) hk hL ht H hd fun lj dE ss' oV gS d' H' hx dy => az ?_
       exact aE rfl (h _ _ _ _ _ _ (H'.le (by omega)) hx dy)
     · refine mQ (m := m) (by omega) (jR (m := m) (n := 3) (by omega) (by omega) (by omega) hd fun j0 d0 Cd E8 => ?_)
       refine w_num (m := m) (k := k) (by omega) (by omega) H.ot ?_
       refine rZ (m := m) (k := k) (by omega) (by simp; omega) (.inl rfl) ?_
       refine yI (m := m) (k := k) (by omega) (by simp; omega) (.inl rfl) ?_
       have H2 := H.terms (M := N + 3) (dE := _) (by omega) (by simp; omega) (yh (x := ⟨1, [], (j0 : Int), [], -1, -1⟩) (y := ⟨0, [110], 0, [], -1, -1⟩) (c := 12) H.kT ⟨.inr (.inl rfl), rfl, rfl, ja⟩ ⟨.inl rfl, rfl, rfl, ja⟩ (.inr (.inr (.inr (.inl rfl)))) (.inl (show (1 : Int) ≠ 0 by decide)))
       refine wL (m := m) (k := k) (by omega) (by omega) H.os (by omega) (by omega) ?_
       refine jR (m := m) (n := (t.ms.map cM).length) (by omega) (by simp; omega) (by simp; omega) E8 fun j1 d1 xw cq => ?_
       refine jR (m := m) (n := (t.ms.map cM).length) (by omega) (by simp; omega) (by simp; omega) cq fun j2 d2 lu eO => ?_
       have H3 := H2.step (s := (⟨3, [], [], [], [], (((tm ++ [(⟨1, [], (j0 : Int), [], -1, -1⟩ : TM)] ++ [(⟨0, [110], 0, [], -1, -1⟩ : TM)]).length : Nat) : Int), true, [], true, [], .im true, [], -1⟩ : SR)) nW
       refine Uy (m := m) (k := k) hB (by omega) (by omega) (N := N + 3 + 1) (by omega) hk hL ht (by simpa using xw) H3 eO fun Uk Ud oe Sm Dv d5 H5 ⟨y, hy, zX⟩ E9 => jc ?_
       have eP : oe[ss.length]? = some (⟨3, [], [], [], [], (((tm ++ [(⟨1, [], (j0 : Int), [], -1, -1⟩ : TM)] ++ [(⟨0, [110], 0, [], -1, -1⟩ : TM)]).length : Nat) : Int), true, [], true, [], .im true, [], -1⟩ : SR) := by rw [hy]; exact BU
       refine aeL (ss := oe) rfl rfl eP rfl ?_
       subst hy
       exact afo (k := k) hB (by omega) (by omega) (N := N + 4 + 20 + Bd e) (by omega) hk hL ht (by simpa using lu) nW rfl rfl (H5.le (by omega)) E9 (fun lj dE ss' oV gS d' H' hx dy => h _ _ _ _ _ _ (H'.le (by omega)) hx dy)
     · refine jR (m := m) (n := (t.ms.map cM).length) (by omega) (by simp; omega) (by simp; omega) hd fun j1 d1 xw cq => ?_
       exact say j1 xw cq
     · refine jR (m := m) (n := (t.ms.map cM).length) (by omega) (by simp; omega) (by simp; omega) hd fun j1 d1 xw cq => ?_
       exact say j1 xw cq)
theorem Wb:∀e,e≤5→uY e
 | 0,h=>Wd 0 h (fun e' he=>by omega)
 | e+1,h=>Wd (e+1) h (fun e' he=>by rw [show e'=e by omega];exact Wb e (by omega))
end
end
end Go.Proofs.YtfmpdgeiodnnfaaGreatDoor
