/- A part of the proof. -/
import Derived.Test.YtfmpdgeiodnnfaaGreatDoorL10
import Derived.Test.YtfmpdgeiodnnfaaGreatDoorL4
import Derived.Test.YtfmpdgeiodnnfaaGreatDoorL1
import Derived.Test.YtfmpdgeiodnnfaaGreatDoorL9
import Derived.Test.YtfmpdgeiodnnfaaGreatDoorL3
import Derived.ChangeSame
import Derived.RowKit
import Derived.Deep.Slices
set_option maxRecDepth 100000
set_option maxHeartbeats 2000000
set_option linter.all false
namespace Go.Proofs.YtfmpdgeiodnnfaaGreatDoor
section
open Go Go.ax PT
open QQ (iJ mO bF oQ)
section
variable {m:Nat} {Q:V→List (List C)→Prop} {p:PC} {W D:Nat→Nat}
theorem ae8 {n:Nat} {s:PS} (g:BG m p W D n s) (hk:s.kd=3) {d:Nat} (hd:d+2 * inc s≤3+2 * D n) {t:List UInt8} (ht:t.length+4000000 * W n≤100000000000000) {K:j8.T→OR} {x9:au bl} (h:∀ls,ey d d d (W n) ls→Wp (K ((),bB (t++fH ls),())) Q)
  {τ:List UInt8} (hτ:NL τ) (hl:τ.length≤330):Wp (ij (T m) (d:Int) ([105,102,32]++τ++[32,123]) (bB t) fun v10=>rA bY 2 1 (s.ws.map cW) 0 fun v12=>c93 (T m) p.nm p.pb (p.pm.map eJ) p.tb (p.tm.map bz) p.sb (p.ss.map cq) v12.1 (ak ((d:Int)+1)) v10.2.1 fun aP=>ij (T m) (d:Int) [125,32,101,108,115,101,32,123] aP.2.1 fun bS=>rA bY 2 1 (s.ws.map cW) 1 fun cd=>c93 (T m) p.nm p.pb (p.pm.map eJ) p.tb (p.tm.map bz) p.sb (p.ss.map cq) cd.1 (ak ((d:Int)+1)) bS.2.1 fun dU=>ij (T m) (d:Int) [125] dU.2.1 fun eG=>lP (T m) m x9 m (d:Int) eG.2.1 (tP p) (tS s)) (J j8 K Q):=by
 have hD:=g.d;have hm:=g.hm;have YX:inc s=1:=by unfold inc;rw [aJ (.inl hk)]
 obtain ⟨w0,AL,ui⟩:∃w0 w1,s.ws=[w0,w1]:=by
  have h2:=g.f.i2 hk;match s.ws,h2 with
  | [a,b],_=>exact ⟨a,b,rfl⟩
 have q6:bq s=[w0.nx,AL.nx]:=by unfold bq;rw [az (by rw [hk];decide),ui];rfl
 obtain ⟨k0,s0,nI,oH,bk0,hD0⟩:=g.e w0.nx (by rw [q6];simp);obtain ⟨k1,s1,uc,kx,bk1,hD1⟩:=g.e AL.nx (by rw [q6];simp);have hw:=g.w;have ho:gl s=3:=by unfold gl;rw [aJ hk]
 rw [q6,ho,nI,uc] at hw;simp only [fS,uN,tF,DY,gW,UG] at hw;have wd:=wI d;have hA:TL 105 123 ([105,102,32]++τ++[32,123]):=tl (eO.2 ⟨eO.2 ⟨cj,hτ⟩,cj⟩) rfl rfl;have BS:([105,102,32]++τ++[32,123]).length=τ.length+5:=by simp
 rw [wd,ui];refine uJ (m:=m) (by omega) (by omega) (by omega) ?_;refine aD (yf (r:=cW w0) (v:=(w0.nx,())) rfl (by simp [cW]) rfl rfl) ?_;dsimp only;rw [nI];refine bk0 (d+1) _ _ _ (by omega) (by rw [ew,uq];dsimp only;omega) fun l0 h0=>?_
 have z0:=h0.sz;refine uJ (m:=m) (by omega) (by omega) (by simp only [ew,uq,gp,jD] at BS ⊢;omega) ?_;refine aD (yf (r:=cW AL) (v:=(AL.nx,())) rfl (by simp [cW]) rfl rfl) ?_;dsimp only;rw [uc];refine bk1 (d+1) _ _ _ (by omega) (by simp only [ew,uq,gp,jD] at BS ⊢;omega) fun l1 h1=>?_
 have z1:=h1.sz;refine uJ (m:=m) (by omega) (by omega) (by simp only [ew,uq,gp,jD] at BS ⊢;omega) ?_;have sg:=((((ey.one hA (by decide) (bT d) (by omega) (by omega) (Hj hA (by decide))).app (h0.deep (by omega))).app (ey.one apW (by decide) (bT d) (by omega) (by simp) apK)).app (h1.deep (by omega))).app (ey.one Hm (by decide) (bT d) (by omega) (by simp) Hi);have:=NT g hd ht (x9:=x9) h sg (by rw [hk,az (by decide)];omega);simp only [sT,vO,show fH []=[] from rfl,mH,←eo] at this;simp only [←eo];exact this
theorem ae7 {n:Nat} {s:PS} (g:BG m p W D n s):Nn (m+1) p W D n s:=by
 intro d t K Q hd ht h;have hm:=g.hm;have hT:=g.ok.t2;have oF:=g.ok.s2 s (fm g.hs);have fs:=g.f;have eq:∀{z:Int},(s.kd==z)=true→s.kd=z:=fun h=>by simpa using h
 refine bH af8 (aM (enc:=cq) (f:=tS) (fun a=>⟨by simp [cq],rfl⟩) rfl g.hs ?_);have one:=fun {τ a b} => ae9 g hd ht (x9:=bB t) (Q:=Q) (τ:=τ) (a:=a) (b:=b) h
 refine ai (fun e=>?_) fun n0=>ai (fun e=>?_) fun n10=>ai (fun e=>?_) fun n1=>ai (fun e=>?_) fun n2=>ai (fun e=>?_) fun n3=>ai (fun e=>?_) fun n4=>ai (fun e=>?_) fun n5=>ai (fun e=>?_) fun n6=>ai (fun e=>?_) fun n7=>ai (fun e=>?_) fun n8=>ai (fun e=>?_) fun n9=>?_
 ·have e:=eq e;exact one (by omega) (τ:=[115,116,111,112]) ⟨cj,rfl,rfl⟩ (by decide) (by decide) (by decide)
 ·have e:=eq e;exact one (by omega) (τ:=[102,97,105,108]) ⟨cj,rfl,rfl⟩ (by decide) (by decide) (by decide)
 ·have e:=eq e;have hn:=mz (fs.n1 (by omega));have:=hn.2;refine cz (by dsimp only [tS];omega) (cz (by simp [tS];omega) (DR (m:=m) (by omega) hT fun τ h1 h2=>cz (by simp [tS];omega) (cz (by simp [tS];omega) ?_)));exact one (by omega) (tl (eO.2 ⟨eO.2 ⟨eO.2 ⟨eO.2 ⟨cj,hn.1⟩,cj⟩,h1⟩,cj⟩) (a:=108) (b:=59) rfl rfl) (by decide) (by decide) (by simp [tS];omega)
 ·have e:=eq e;refine DR (m:=m) (by omega) hT fun τ h1 h2=>cz (by dsimp only [tS];omega) (cz (by simp [tS];omega) ?_)
  exact one (by omega) (tl (eO.2 ⟨eO.2 ⟨cj,h1⟩,cj⟩) (a:=112) (b:=59) rfl rfl) (by decide) (by decide) (by simp;omega)
 ·have e:=eq e;refine DR (m:=m) (by omega) hT fun τ h1 h2=>cz (by dsimp only [tS];omega) (cz (by simp [tS];omega) ?_)
  exact ae8 g e hd ht h h1 h2
 ·have e:=eq e;have hn:=mz (fs.n1 (by omega));have hp:=mz (fs.n2 (by omega));have hb:=mz (fs.n3 (by omega));have:=hn.2;have:=hp.2;have:=hb.2;refine cz (by dsimp only [tS];omega) (cz (by simp [tS];omega) (cz (by simp [tS];omega) (cz (by simp [tS];omega) (cz (by simp [tS];omega) (cz (by simp [tS];omega) (DR (m:=m) (by omega) hT fun τ h1 h2=>cz (by simp [tS];omega) (cz (by simp [tS];omega) ?_)))))));exact one (by omega) (tl (by simp only [eO];exact ⟨⟨⟨⟨⟨⟨⟨⟨cj,hn.1⟩,cj⟩,hp.1⟩,cj⟩,hb.1⟩,cj⟩,h1⟩,cj⟩) (a:=115) (b:=59) rfl rfl) (by decide) (by decide) (by simp [tS];omega)
 ·have e:=eq e;have hn:=mz (fs.n1 (by omega));have hp:=mz (fs.n2 (by omega));have:=hn.2;have:=hp.2;have hD:=g.d;have YX:inc s=1:=by unfold inc;rw [aJ (.inr e)]
  have hw:=g.w;have ho:gl s=2+2 * s.ws.length:=by unfold gl;rw [az (by omega),aJ e]
  have hA:TL 104 123 ([104,101,97,114,32]++s.nm++[32,102,114,111,109,32]++s.pr++[32,123]):=tl (by simp only [eO];exact ⟨⟨⟨⟨cj,hn.1⟩,cj⟩,hp.1⟩,cj⟩) rfl rfl;have BS:([104,101,97,114,32]++s.nm++[32,102,114,111,109,32]++s.pr++[32,123]).length≤50:=by simp;omega
  refine cz (by dsimp only [tS];omega) (cz (by simp [tS];omega) (cz (by simp [tS];omega) (cz (by simp [tS];omega) (uJ (m:=m) (by omega) (by omega) ?_ ?_))))
  ·show t.length+([104,101,97,114,32]++s.nm++[32,102,114,111,109,32]++s.pr++[32,123]).length+2 * d+1≤_;omega
  ·refine VP g e hd m 0 _ (by have:=oF.2.2.2;omega) (by omega) ?_ fun ls lM=>?_
   ·rw [ew,uq,AW];show t.length+(2 * d+([104,101,97,114,32]++s.nm++[32,102,114,111,109,32]++s.pr++[32,123]).length+1)+_≤_;omega
   ·have:=NT g hd ht (x9:=bB t) h ((ey.one hA (by decide) (bT d) (by omega) (by omega) (Hj hA (by decide))).app lM) (by rw [e,az (by decide),AW];omega);rw [sT,vO,show fH []=[] from rfl,mH,←eo] at this;exact this
 ·have e:=eq e;have hn:=mz (fs.n4 (by omega));have:=hn.2;refine cz (by dsimp only [tS];omega) (Ua (m:=m) (by omega) hT oF.1 fun τ h1 h2 h3=>cz (by simp [tS];omega) ?_);exact one (by omega) (tl (eO.2 ⟨eO.2 ⟨cj,hn.1⟩,h1⟩) (a:=99) (b:=41) rfl h3) (by decide) (by decide) (by simp [tS];omega)
 ·have e:=eq e;have hn:=mz (fs.n4 (by omega));have:=hn.2;refine cz (by dsimp only [tS];omega) (Ua (m:=m) (by omega) hT oF.1 fun τ h1 h2 h3=>cz (by simp [tS];omega) (cz (by simp [tS];omega) ?_));exact one (by omega) (tl (eO.2 ⟨eO.2 ⟨eO.2 ⟨cj,hn.1⟩,h1⟩,cj⟩) (a:=115) (b:=59) rfl rfl) (by decide) (by decide) (by simp [tS];omega)
 ·have e:=eq e;have hc:Sj s.cs:=⟨oF.2.1,fun c hc=>⟨oF.2.2.1 c hc,mz (fs.n5 e c hc).1,mz (fs.n5 e c hc).2⟩⟩
  refine aqD (m:=m) (by omega) hT (mz (fs.n1 (by omega))) (mz (fs.n3 (by omega))) (mz (fs.n2 (by omega))) hc fun τ h1 h2=>?_
  exact one (by omega) h1 (by decide) (by decide) (iQ h2 (by decide))
 ·have e:=eq e;have hn:=mz (fs.n1 (by omega));have:=hn.2;refine cz (by dsimp only [tS];omega) (cz (by simp [tS];omega) ?_);exact one (by omega) (tl (eO.2 ⟨eO.2 ⟨cj,hn.1⟩,cj⟩) (a:=100) (b:=59) rfl rfl) (by decide) (by decide) (by simp [tS];omega)
 ·have ne:∀{z:Int},(s.kd==z)=false→s.kd≠z:=fun h=>by simpa using h
  have:=ne n0;have:=ne n1;have:=ne n2;have:=ne n3;have:=ne n4;have:=ne n5;have:=ne n6;have:=ne n7;have:=ne n8;have:=ne n9;have:=ne n10;have:=fs.k0;omega
theorem VN (hp:gx p) (hS:SF p.ss) (kr:p.ss.length≤80) (hW:∀(n:Nat) s,p.ss[n]? = some s→W n=gl s+((bq s).map fun z=>W z.toNat).sum)
  (hD:∀(i:Nat) s,p.ss[i]? = some s→D i≤24∧∀k:Nat,(k:Int)∈bq s→∀s',p.ss[k]? = some s'→D k=D i+inc s'):∀(j n:Nat) (s:PS),p.ss[n]? = some s→p.ss.length - n≤j→∀m,1000+j≤m→Nn m p W D n s
 | 0,n,s,hs,hj,m,hm=>by
  have:=(cB.1 hs).1;omega
 | j+1,n,s,hs,hj,m,hm=>by
  obtain ⟨m,rfl⟩:=bm 1 m;refine ae7 ⟨by omega,hp,hs,hS.f s (fm hs),fun t ht=>?_,hW n s hs,(hD n s hs).1⟩;obtain ⟨k,rfl,h1,h2⟩:=hS.e n s t hs ht;have hg:p.ss[k]? = some p.ss[k]:=gE h2;exact ⟨k,_,rfl,hg,VN hp hS kr hW hD j k _ hg (by omega) m (by omega),(hD n s hs).2 k ht _ hg⟩
end
end
section
open Go Go.ax PT
def Wf (ss:List PS):Nat→Nat→Nat
 | 0,_=>0
 | f+1,n=>match ss[n]? with
  | none=>0
  | some s=>gl s+((bq s).map fun z=>Wf ss f z.toNat).sum
theorem aqZ {ss:List PS} (h:SF ss):∀f f' n,ss.length - n≤f→ss.length - n≤f'→Wf ss f n=Wf ss f' n:=by
 intro f;induction f with
 | zero=>
  intro f' n h1 h2;cases f' with
  | zero=>rfl
  | succ f'=>
   show 0=(match ss[n]? with | none=>0 | some s=>_)
   rw [pR (by omega)]
 | succ f ih=>
  intro f' n h1 h2;cases hs:ss[n]? with
  | none=>
   have e:∀f,Wf ss f n=0:=fun f=>by
    cases f with
    | zero=>rfl
    | succ f=>show (match ss[n]? with | none=>0 | some s=>_)=0;rw [hs]
   rw [e,e]
  | some s=>
   have hn:=(cB.1 hs).1;obtain ⟨f',rfl⟩:∃i,f'=i+1:=⟨f' - 1,by omega⟩
   show (match ss[n]? with | none=>0 | some s=>_)=(match ss[n]? with | none=>0 | some s=>_)
   rw [hs];show gl s+_=gl s+_;congr 2;refine UR fun z hz=>?_
   obtain ⟨k,rfl,h3,h4⟩:=h.e n s z hs hz;exact ih f' _ (by simp;omega) (by simp;omega)
def Wn (ss:List PS) (n:Nat):Nat:=Wf ss ss.length n
theorem aeB {ss:List PS} (h:SF ss) {n:Nat} {s:PS} (hs:ss[n]? = some s):Wn ss n=gl s+((bq s).map fun z=>Wn ss z.toNat).sum:=by
 have hn:=(cB.1 hs).1;obtain ⟨f,hf⟩:∃f,ss.length=f+1:=⟨ss.length - 1,by omega⟩
 have e:Wn ss n=gl s+((bq s).map fun z=>Wf ss f z.toNat).sum:=by
  unfold Wn;rw [hf];show (match ss[n]? with | none=>0 | some s=>_)=_;rw [hs]
 rw [e];congr 2;refine UR fun z hz=>?_
 obtain ⟨k,rfl,h3,h4⟩:=h.e n s z hs hz;exact aqZ h _ _ _ (by simp;omega) (by simp)
theorem W4 (k:Nat):∀n,((List.range n).map fun i=>((i+1:Nat):Int)).count (k:Int)=if 1≤k∧k≤n then 1 else 0
 | 0=>by rw [az (by omega)];rfl
 | n+1=>by
  rw [Nh,eg,AV,W4 k n];simp only [fS,uN,List.count_singleton];by_cases h:k=n+1
  ·subst h;rw [az (by omega),aJ (by simp),aJ (by omega)]
  ·rw [az (show ¬ (((n+1:Nat):Int)==(k:Int))=true by simp;omega)];by_cases h2:1≤k∧k≤n
   ·rw [aJ h2,aJ (by omega)]
   ·rw [az h2,az (by omega)]
theorem aop {ss:List PS} (h:SF ss) {L:Nat} (hL:ss.length=L+1):(ss.flatMap bq).Perm ((List.range L).map fun i=>((i+1:Nat):Int)):=by
 have inF:∀a,a∈ss.flatMap bq→∃k:Nat,a=(k:Int)∧1≤k∧k≤L:=by
  intro a ha;obtain ⟨s,hs,ha⟩:=Nc.1 ha;obtain ⟨i,hi,rfl⟩:=DX hs;obtain ⟨k,e,h1,h2⟩:=h.e i _ a (gE hi) ha;exact ⟨k,e,by omega,by omega⟩
 refine List.perm_iff_count.2 fun a=>?_
 by_cases ha:∃k:Nat,a=(k:Int)∧1≤k∧k≤L
 ·obtain ⟨k,rfl,h1,h2⟩:=ha;rw [W4,aJ ⟨h1,h2⟩];exact h.u k h1 (by omega)
 ·rw [HC.2 fun hm=>ha (inF a hm),HC.2 fun hm=>?_];obtain ⟨i,hi,rfl⟩:=iz.1 hm;exact ha ⟨i+1,rfl,by omega,by have:=tE.1 hi;omega⟩
theorem aqX {ss:List PS} (h:SF ss) (h0:ss≠[]):Wn ss 0=(ss.map gl).sum:=by
 obtain ⟨L,hL⟩:∃L,ss.length=L+1:=by cases ss with | nil=>exact absurd rfl h0 | cons a t=>exact ⟨t.length,rfl⟩
 have st:∀j,j≤ss.length→((List.range j).map (Wn ss)).sum=((ss.take j).map gl).sum+((PP ss j).map fun z=>Wn ss z.toNat).sum:=by
  intro j;induction j with
  | zero=>intro _;simp [PP]
  | succ j ih=>
   intro hj;have hs:ss[j]? = some ss[j]:=gE (by omega);rw [Nh,eg,HL,ih (by omega),Ve hs,pT,hs];have:=aeB h hs;simp only [eg,HL,fS,uN,tF,DY,HP];omega
 have:=st ss.length (bT _);rw [AZ,show PP ss ss.length=ss.flatMap bq by simp [PP],((aop h hL).map _).sum_nat,hL,aeL] at this;simp only [fS,tF,US] at this;have e:((List.range L).map (Wn ss∘Nat.succ)).sum=((List.range L).map ((fun z:Int=>Wn ss z.toNat)∘fun i=>((i+1:Nat):Int))).sum:=by
  congr 1;all_goals (refine UR fun i _=>?_;simp)
 omega
end
section
open Go Go.ax PT
open QQ (iJ mO bF oQ dg uY nE pI yd qw bI rk kX nc Am iU qn)
def r9 (l:LN):Bool:=l.d==0&&l.s.head? == some 125
section
variable {m:Nat} {Q:V→List (List C)→Prop} {K:j8.T→OR}
theorem abY (hm:1200≤m) {p:PC} (hp:gx p) (hh:HD p) (hS:SF p.ss) {t:List UInt8} (ht:t.length+4000000 * (2+Wn p.ss 0)≤100000000000000) {b:Bool} {o:List (List UInt8)} (hl:o.length≤2) (ho:∀y∈o,NL y∧y.length≤11)
  (h:∀ls,ey 0 0 0 (2+Wn p.ss 0) ls→ls.countP r9=1→Wp (K ((),bB (t++fH ls),())) Q) :
  Wp (oi (T m) b (o.map aL) [44,32] fun v4=>(aN (([112,114,111,99,32]++p.nm++[40]).length+List.length v4.1) (aN (([112,114,111,99,32]++p.nm++[40]++v4.1).length+3) (ij (T m) 0 ([112,114,111,99,32]++p.nm++[40]++v4.1++[41,32,123]) (bB t) fun v5=>(c93 (T m) p.nm p.pb (p.pm.map eJ) p.tb (p.tm.map bz) p.sb (p.ss.map cq) 0 1 v5.2.1 fun v6=>(ij (T m) 0 [125] v6.2.1 fun v7=>(some ((.aq []),[(bx bl v7.2.1)])))))))) (J j8 K Q):=by
 have hj:=JV (N:=11) fun y hy=>(ho y hy).2
 have hn:=mz hh.hn;have nM:=hn.2;obtain ⟨D,hD⟩:=hS.d;have oH:p.ss[0]? = some (p.ss[0]'(hp.s0)):=gE _;generalize p.ss[0]'(hp.s0)=s0 at oH;have hi:inc s0≤1:=by unfold inc;split<;>omega
 have bk:=VN (D:=D) hp hS hh.hs (fun n s hs=>aeB hS hs) hD 80 0 s0 oH (by have:=hh.hs;omega) m (by omega);refine Ud (by omega) (by omega) (fun y hy=>by have:=(ho y hy).2;omega) (cz (by simp;omega) (cz (by simp;omega) ?_));dsimp only;have hA:TL 112 123 ([112,114,111,99,32]++p.nm++[40]++iJ o++[41,32,123]):=tl (by simp only [eO];exact ⟨⟨⟨⟨cj,hn.1⟩,cj⟩,FR fun y hy=>(ho y hy).1⟩,cj⟩) rfl rfl;have BS:([112,114,111,99,32]++p.nm++[40]++iJ o++[41,32,123]).length≤100:=by simp;omega
 generalize [112,114,111,99,32]++p.nm++[40]++iJ o++[41,32,123]=A at hA BS;refine uJ (m:=m) (d:=0) (by omega) (by omega) (by omega) ?_;refine bk 1 _ _ _ (by omega) (by rw [ew,uq];dsimp only;omega) fun ls lM=>?_
 have hz:=lM.sz;refine uJ (m:=m) (d:=0) (by omega) (by omega) (by simp only [ew,uq,gp,jD];omega) (aA ?_);unfold J;rw [rz];have sg:=((ey.one (e:=0) (d:=0) hA (by decide) (by omega) (by omega) (by omega) (Hj hA (by decide))).app (lM.deep (by omega))).app (ey.one Hm (by decide) (bT 0) (by omega) (by simp) Hi)
 have := h _ (by rw [show 2 + Wn p.ss 0 = 1 + Wn p.ss 0 + 1 by omega]; exact sg) (by
   rw [UH, UH]
   have e1 : List.countP r9 ls = 0 := List.countP_eq_zero.2 fun l hl => by
     have := (lM.ok l hl).2
     simp [r9]; omega
   have e2 : List.countP r9 [⟨0, A⟩] = 0 := by simp [r9, hA.h]
   rw [e1, e2]; rfl)
 simp only [sT,vO,show fH []=[] from rfl,mH,←eo] at this;exact this
theorem abV {p:PC} (hp:gx p) {x:List UInt8×Int×List UInt8} (hx:x∈p.pm):NL (x.1++[58,32]++mO x.2.1 x.2.2)∧(x.1++[58,32]++mO x.2.1 x.2.2).length≤11:=by
 obtain ⟨h1,h2⟩:=hp.p2 x hx;have:=QQ.Iv h1;rcases h2 with e | e<;>rw [e]<;>exact ⟨eO.2 ⟨cj,WG h1⟩,by simp;omega⟩
theorem abX (q:Nat) (hq:1200≤q) {p:PC} (hp:gx p) (hh:HD p) (hS:SF p.ss) {t:List UInt8} (ht:t.length+4000000 * (2+Wn p.ss 0)≤100000000000000)
  (h:∀ls,ey 0 0 0 (2+Wn p.ss 0) ls→ls.countP r9=1→Wp (K ((),bB (t++fH ls),())) Q) {x7:au bl}:∀(c i:Nat) (o:List (List UInt8)),p.pm.length - i < c→i≤p.pm.length→o.length=i→(∀y∈o,NL y∧y.length≤11)→
  Wp (Kb (T q) q x7 c (bB t) (tP p) (o.map aL) p.pb (p.pm.map eJ) (ae (p.pm.map eJ).length) (i:Int)) (J j8 K Q)
 | 0,i,o,hc,_,_,_=>by omega
 | c+1,i,o,hc,hi,ho,hy=>by
  have h2:=hp.p1;have hn:=(mz hh.hn).2;refine aD akH (ai (fun g1=>?_) (fun _=>cz (by dsimp only [tP];omega) (cz (by simp [tP];omega) (aE (by simp) ?_))))
  ·have af:=bM g1;have hx:=hp.p2 _ (bL af);have hk:=abV hp (bL af);have jI:p.pm[i].1.length=1:=by rcases hx.2 with e | e<;>rw [e]<;>rfl
   have vx:=hk.2;simp only [ew] at vx;refine aM G2 rfl (gE af) (cz (by dsimp only;omega) ?_);refine aD (QQ.II (by omega) hx.1 rfl) (cz (by simp only [ew];omega) (aE (hC (by simp;omega) (by omega)) ?_));rw [w1 (by omega),dr]
   have := abX q hq hp hh hS ht h (x7 := x7) c (i + 1) (o ++ [p.pm[i].1 ++ [58, 32] ++ mO p.pm[i].2.1 p.pm[i].2.2]) (by omega) (by omega) (by simp; omega) (fun y fO => by
     rw [dC] at fO
     rcases fO with fO | fO
     · exact hy y fO
     · rw [uO.1 fO]; exact hk)
   rw [eg] at this;exact this
  ·rw [dr,qv];exact abY hq hp hh hS ht (by omega) hy h
theorem aqE (hm:1210≤m) {p:PC} (hp:gx p) (hh:HD p) (hS:SF p.ss) {t:List UInt8} (ht:t.length+4000000 * (2+Wn p.ss 0)≤100000000000000)
  (h:∀ls,ey 0 0 0 (2+Wn p.ss 0) ls→ls.countP r9=1→Wp (K ((),bB (t++fH ls),())) Q):Wp (Wo (T m) p.nm p.pb (p.pm.map eJ) p.tb (p.tm.map bz) p.sb (p.ss.map cq) (bB t) K) Q:=by
 obtain ⟨m,rfl⟩:=cG hm;obtain ⟨r,hr⟩:=bm 1 m;have e0:Ka (T m) m (bB t) m=Ka (T m) m (bB t) (r+1):=by rw [←hr]
 have h2:=hp.p1;have hn:=(mz hh.hn).2;refine bH agc ?_;rw [e0];refine aD akG (ai (fun g1=>?_) (fun _=>cz (by dsimp only [tP];omega) (cz (by simp [tP];omega) ?_)))
 ·have af:=bM (i:=0) g1;have hx:=hp.p2 _ (bL af);have hk:=abV hp (bL af);have jI:p.pm[0].1.length=1:=by rcases hx.2 with e | e<;>rw [e]<;>rfl
  have vx:=hk.2;simp only [ew] at vx;refine aM G2 (i:=0) rfl (gE af) (cz (by dsimp only;omega) ?_);refine aD (QQ.II (by omega) hx.1 rfl) (cz (by simp only [ew];omega) (aE rfl ?_));exact abX m (by omega) hp hh hS ht h r 1 [p.pm[0].1++([58,32]:List UInt8)++mO p.pm[0].2.1 p.pm[0].2.2] (by omega) (by omega) rfl (fun y hy=>by rw [uO.1 hy];exact hk)
 ·exact abY (o:=[]) (by omega) hp hh hS ht (by simp) (fun y hy=>by cases hy) h
end
def Dn (i:Nat) (p:QQ.PT):LN:=⟨1,dg i++[58,32]++(if p.ms=[] then [101,110,100] else p.fr++[32,45,62,32]++p.to++nE p.ms)⟩
def GV:Nat→List QQ.PT→List LN
 | _,[]=>[]
 | i,p::t=>Dn i p::GV (i+1) t
def GU (nm:List UInt8) (M:Nat) (ps:List QQ.PT):List LN:=⟨0,[112,114,111,116,111,99,111,108,32]++nm++[32,114,111,108,101,115,32]++iJ ((List.range M).map bI)++[32,123]⟩::GV 0 ps++[⟨0,[125]⟩]
theorem aoE (i:Nat) (p:QQ.PT):pI i p=rf (Dn i p):=by
 unfold pI Dn rf;split<;>simp [List.replicate]
theorem ab':∀(l:List QQ.PT) (i:Nat),yd i l=fH (GV i l)++[125,10]
 | [],i=>rfl
 | p::t,i=>by
  show pI i p++yd (i+1) t=fH (Dn i p::GV (i+1) t)++_;rw [ab' t,aoE,vO,eo]
theorem ab4 (nm:List UInt8) (M:Nat) (ps:List QQ.PT):qw nm M ps=fH (GU nm M ps):=by
 unfold qw GU;rw [ab',sT,vO];simp [rf,fH,eo]
theorem Xg {k:Nat} (hk:k < 10):NL (dg k)∧∃a,dg k=[a]∧a≠32∧a≠125:=
 QQ.Xh (p := fun _ s => NL s ∧ ∃ a, s = [a] ∧ a ≠ 32 ∧ a ≠ 125) (by
   refine ⟨?_, ?_, ?_, ?_, ?_, ?_, ?_, ?_, ?_, ?_⟩
   all_goals exact ⟨cj, _, rfl, by decide, by decide⟩) hk
theorem Tc {k:Nat} (h:k < 4):NL (bI k):=by
 match k,h with
 | 0,_=>exact cj
 | 1,_=>exact cj
 | 2,_=>exact cj
 | 3,_=>exact cj
theorem ae0 {P:Nat} (hP:P≤10) {l:List QQ.AM} (h:nc P l):NL (nE l):=by
 unfold nE;refine eO.2 ⟨eO.2 ⟨cj,FR fun y hy=>?_⟩,cj⟩;obtain ⟨x,hx,rfl⟩:=iz.1 hy;obtain ⟨h1,h2,h3⟩:=h.2.2.2 x hx;have hl:NL x.mq:=by
  simp only [qn,gV,nB,nD] at h1;rcases h1 with e | e | e | e | e<;>rw [e]<;>exact cj
 unfold uY;exact eO.2 ⟨eO.2 ⟨eO.2 ⟨eO.2 ⟨hl,cj⟩,WG h2⟩,cj⟩,(Xg (by omega)).1⟩
theorem aoF {P M i:Nat} (hP:P≤10) (hM:M≤4) (hi:i < 10) {p:QQ.PT} (h:rk P M p):ey 0 (1:Nat) (1:Nat) 1 [Dn i p]:=by
 obtain ⟨hd,a,ha,Yx,Yy⟩:=Xg hi;unfold Dn;rcases h with ⟨_,_,h3⟩ | ⟨k,j,hk,hj,_,hf,ht,hm⟩
 ·rw [aJ h3];have:TL a 100 (dg i++[58,32]++[101,110,100]):=tl (eO.2 ⟨eO.2 ⟨hd,cj⟩,cj⟩) (by rw [ha];rfl) rfl;exact ey.one this Yx (by omega) (by omega) (by rw [ha];simp) (TJ this Yy (by decide))
 ·have aB:p.ms≠[]:=by
   intro e;have:=hm.1;rw [e] at this;cases this
  rw [az aB];have hn:=ae0 hP hm;have hl:=QQ.Ei hm;have:TL a 125 (dg i++[58,32]++(p.fr++[32,45,62,32]++p.to++nE p.ms)):=by
   refine tl (eO.2 ⟨eO.2 ⟨hd,cj⟩,?_⟩) (by rw [ha];rfl) ?_
   ·rw [hf,ht];exact eO.2 ⟨eO.2 ⟨eO.2 ⟨Tc (by omega),cj⟩,Tc (by omega)⟩,hn⟩
   ·unfold nE;rw [HG,HG];rfl
  refine ey.one this Yx (by omega) (by omega) ?_ (TJ this Yy (by decide));rw [hf,ht,ha];simp [bI];omega
theorem acd {P M:Nat} (hP:P≤10) (hM:M≤4):∀(l:List QQ.PT) (i:Nat),i+l.length≤10→(∀p∈l,rk P M p)→ey 0 (1:Nat) (1:Nat) l.length (GV i l)
 | [],i,_,_=>ey.nil
 | p::t,i,hl,h=>by
  have mc:i+(t.length+1)≤10:=hl;have:=(aoF hP hM (i:=i) (by omega) (h p jT)).app (acd hP hM t (i+1) (by omega) fun x hx=>h x (kE _ hx));rw [gp,Nat.add_comm];exact this
theorem ab5 {nm:List UInt8} (hn:nm=[112]∨nm=[113]) {M:Nat} {ps:List QQ.PT} (h:kX M ps):ey 0 0 0 (2+ps.length) (GU nm M ps):=by
 have hM:=h.2.1;have h8:=h.2.2.2.1;have hy:∀y∈(List.range M).map bI,NL y∧y.length≤1:=by
  intro y hy;obtain ⟨k,hk,rfl⟩:=iz.1 hy;exact ⟨Tc (by have:=tE.1 hk;omega),by simp [bI]⟩
 have hj:=JV (N:=1) fun y fO=>(hy y fO).2
 rw [cf,UP] at hj;have hA:TL 112 123 ([112,114,111,116,111,99,111,108,32]++nm++[32,114,111,108,101,115,32]++iJ ((List.range M).map bI)++[32,123]):=by
  refine tl ?_ rfl rfl;rcases hn with rfl | rfl<;>exact eO.2 ⟨eO.2 ⟨cj,FR fun y fO=>(hy y fO).1⟩,cj⟩
 have sg:=((ey.one (e:=0) (d:=0) hA (by decide) (by omega) (by omega) (by rcases hn with rfl | rfl<;>simp<;>omega) (Hj hA (by decide))).app (acd (by omega) hM ps 0 (by omega) h.2.2.2.2)).app (ey.one Hm (by decide) (bT 0) (by omega) (by simp) Hi);rw [show 2+ps.length=1+ps.length+1 by omega];exact sg
end
section
open Go Go.ax
section
variable {A B:bW}
theorem ZO {f g:St→Option (tI×St)} (h:∀S x,f S=some x→g S=some x):∀(n:Nat) (S:St) x,iter f n S=some x→iter g (n+1) S=some x
 | 0,S,x,he=>by cases he
 | n+1,S,x,he=>by
  rw [iter] at he ⊢;cases hf:f S with
  | none=>simp [hf] at he
  | some y=>
   rw [hf] at he;rw [h S y hf];simp only [Option.bind] at he ⊢;obtain ⟨e,S1⟩:=y;cases e with
   | norm=>exact ZO h n S1 x he
   | exit i=>exact he
   | ret=>exact he
theorem ahO (h:tJ A B) (n:Nat):∀(c:lY) (S:St) x,dm A n c S=some x→dm B (n+1) c S=some x:=by
 intro c;induction c with
 | skip=>intro S x he;exact he
 | ja keep gc ops draw=>intro S x he;exact ahP h n (.ja keep gc ops draw) S x he
 | seq a b zP zQ=>
  intro S x he;simp only [dm] at he ⊢;cases h1:dm A n a S with
  | none=>simp [h1] at he
  | some y=>
   rw [h1] at he;rw [zP S y h1];obtain ⟨e,S1⟩:=y;simp only [Option.bind] at he ⊢;cases e with
   | norm=>exact zQ S1 x he
   | exit i=>exact he
   | ret=>exact he
 | cond c a b zP zQ=>
  intro S x he;simp only [dm] at he ⊢;cases h1:yY S c with
  | none=>simp [h1] at he
  | some t=>
   rw [h1] at he;simp only [Option.bind] at he ⊢;cases t with
   | true=>exact zP S x he
   | false=>exact zQ S x he
 | block id b ih=>
  intro S x he;simp only [dm] at he ⊢;cases h1:dm A n b S with
  | none=>simp [h1] at he
  | some y=>rw [h1] at he;rw [ih S y h1];exact he
 | loop b ih=>intro S x he;simp only [dm] at he ⊢;exact ZO ih n S x he
 | exit id=>intro S x he;exact he
 | ret=>intro S x he;exact he
theorem ahN (h:tJ A B) (n:Nat) (fn:ll) (args:List V) (bx:List (List C)) (r) (he:vb A n fn args bx=some r):vb B (n+1) fn args bx=some r:=by
 unfold vb at he ⊢;split at he
 ·rename_i hl;rw [aJ hl];cases h1:dm A n fn.body (ga 0 args++dk 0 bx) with
  | none=>simp [h1] at he
  | some y=>rw [h1] at he;rw [ahO h n _ _ y h1];exact he
 ·cases he
theorem XI {t:Nat→Option ll} {p:bW}:∀n,tJ (nF t p n) (nF t p (n+1))
 | 0=>fun f vs bx r h=>by cases h
 | n+1=>fun f vs bx r h=>by
  simp only [nF] at h ⊢;cases hx:t f with
  | none=>simp only [hx] at h ⊢;exact h
  | some fn=>simp only [hx] at h ⊢;exact ahN (XI n) n fn vs bx r h
end
theorem aeU {n k f:Nat} {vs:List V} {bs:List (List C)} {r:V×List (List C)} (h:T n f vs bs=some r) (hk:n≤k):T k f vs bs=some r:=by
 obtain ⟨j,rfl⟩:∃j,k=n+j:=⟨k - n,by omega⟩
 clear hk;induction j with
 | zero=>exact h
 | succ j ih=>
  unfold T at ih ⊢;exact XI (n+j) f vs bs r ih
end
section
open Go Go.ax PT
open QQ (iJ mO bF oQ qw xO wB pN Dc De)
theorem wz {X:Type} (f:X→Nat) (c:Nat):∀l:List X,(∀x∈l,f x≤c)→(l.map f).sum≤l.length * c
 | [],_=>by simp
 | a::t,h=>by
  have h1:=h a jT;have h2:=wz f c t fun x hx=>h x (kE _ hx)
  simp only [fS,tF,gp,lI,Nat.one_mul];omega
def wP (p:PC):Nat:=2+Wn p.ss 0
theorem ad5 {p:PC} (hp:gx p) (hS:SF p.ss):wP p=2+(p.ss.map gl).sum:=by
 unfold wP;rw [aqX hS (by intro e;have:=hp.s0;rw [e] at this;cases this)]
theorem T9 {p:PC} (hp:gx p) (hh:HD p) (hS:SF p.ss):wP p≤17000:=by
 have:=wz gl 202 p.ss fun s hs=>by
  have:=(hp.s2 s hs).2.2.2;unfold gl;split
  ·omega
  ·split<;>omega
 have kr:=hh.hs;have:p.ss.length * 202≤80 * 202:=nC _ kr;rw [ad5 hp hS];omega
theorem anH {ts:List QQ.TN} (h:Dc ts):(xO ts).length≤600:=by
 have st:∀(l:List QQ.TN) (i:Nat),(∀p∈l,De ts.length p)→(wB i l).length≤80 * l.length+2:=by
  intro l;induction l with
  | nil=>intro i _;simp [wB]
  | cons p t ih=>
   intro i h;have h1:=QQ.adM (i:=i) (h p jT);have h2:=ih (i+1) fun x hx=>h x (kE _ hx)
   show (pN i p++wB (i+1) t).length≤_;rw [ew,gp];omega
 have:=st ts 0 h.2.2;have:=h.2.1;unfold xO;rw [ew];simp;omega
def Aq (gs:List GP):List UInt8:=gs.flatMap fun g=>qw g.nm g.M g.ps
def Ae (ls:List LK):List UInt8:=ls.flatMap fun l=>xO l.ts
theorem aoB {g:GP} (h:jM g):(qw g.nm g.M g.ps).length≤40000000:=by
 have:=(ab5 h.1 h.2).sz;have:=h.2.2.2.2.1;rw [ab4];omega
abbrev Ic (b1 b2 b3:Bool) (gs:List GP) (ls:List LK) (ay:List PC):List V:=[(.agg [(lC (.im b1) 3 ((gs.map dN).map cZ)),(lC (.im b2) 2 (ls.map kJ)),(lC (.im b3) 4 (ay.map dK))])]
section
variable {m:Nat} {Q:V→List (List C)→Prop} {b1 b2 b3:Bool} {gs:List GP} {ls:List LK} {ay:List PC} {K:ft.T→OR}
theorem abZ (q:Nat) (hq:1300≤q) (cr:ay.length≤20) (hp:∀p∈ay,gx p) (hh:∀p∈ay,HD p∧SF p.ss):∀(c i:Nat) (t:List UInt8),ay.length - i < c→i≤ay.length→t≠[]→t.length+4000000 * ((ay.drop i).map wP).sum≤100000000000000→
  (∀gQ,ey 0 0 0 ((ay.drop i).map wP).sum gQ→gQ.countP r9=ay.length - i→Wp (K (t++fH gQ,())) Q)→
  Wp (J5 (T q) q c (bB t) b3 (ay.map dK) (ae (ay.map dK).length) (i:Int)) (J ft K Q)
 | 0,i,t,hc,_,_,_,_=>by omega
 | c+1,i,t,hc,hi,aB,hl,h=>by
  refine aD Re (ai (fun g1=>?_) (fun g1=>?_))
  ·have af:=bM g1;have hm:=bL af;rw [tA af,fS,tF] at hl h;refine aM (enc:=dK) (f:=tP) (fun a=>⟨by simp [dK],rfl⟩) rfl (gE af) ?_;refine aqE (m:=q) (by omega) (hp _ hm) (hh _ hm).1 (hh _ hm).2 (t:=t) (by unfold wP at hl;omega) fun l0 h0 h0c=>?_
   have hz:=h0.sz;dsimp only;rw [w1 (by omega)];refine abZ q hq cr hp hh c (i+1) _ (by omega) (by omega) (fun e=>aB (HB.1 e).1) (by rw [ew];unfold wP at hl ⊢;omega) fun l1 h1 h1c=>?_
   have:=h (l0++l1) (h0.app h1) (by rw [UH,h0c,h1c];omega);rw [sT,←eo] at this;exact this
  ·have eP:=tU g1;have e:ay.drop i=[]:=DW eP;rw [e] at h hl;simp at hl;have hs:=h [] ey.nil (by simp;omega);rw [show fH []=[] from rfl,mH] at hs;have st:=TU q (by omega) t aB (by omega);refine aD (show c37 (T q) (bB t) _=_ by rw [c37,st,acA]) (aA (aC rfl hs))
theorem ab2 (q:Nat) (hq:1300≤q) (gi:ls.length≤5) (nK:∀l∈ls,xV l) (cr:ay.length≤20) (hp:∀p∈ay,gx p) (hh:∀p∈ay,HD p∧SF p.ss) {b1:Bool}:∀(c i:Nat) (t:List UInt8),ls.length - i < c→i≤ls.length→t≠[]→t.length+600 * (ls.length - i)+4000000 * (ay.map wP).sum≤100000000000000→
  (∀gQ,ey 0 0 0 (ay.map wP).sum gQ→gQ.countP r9=ay.length→Wp (K (t++Ae (ls.drop i)++fH gQ,())) Q)→
  Wp (F0 (T q) q c (GR b1 b2 b3 (gs.map dN) (ls.map kJ) ay) (bB t) b2 (ls.map kJ) (ae (ls.map kJ).length) (i:Int)) (J ft K Q)
 | 0,i,t,hc,_,_,_,_=>by omega
 | c+1,i,t,hc,hi,aB,hl,h=>by
  refine aD ZY (ai (fun g1=>?_) (fun g1=>?_))
  ·have af:=bM g1;obtain ⟨hn,ho⟩:=nK _ (bL af);have hz:=anH ho;refine aM (enc:=kJ) (f:=fun l=>(l.nm,(l.b,l.ts.map QQ.cN),())) (fun a=>⟨by simp [kJ],rfl⟩) rfl (gE af) ?_;dsimp only;rw [hn];refine aD (QQ.afB (by omega) _ ho rfl) (Uk (m:=q) (by omega) (by dsimp only;omega) fun n=>gM rfl ?_);dsimp only;rw [w1 (by omega)];refine ab2 q hq gi nK cr hp hh c (i+1) _ (by omega) (by omega) (fun e=>aB (HB.1 e).1) (by rw [ew];omega) fun gQ h1 h2=>?_
   have:=h gQ h1 h2;rw [tA af,show Ae (ls[i]::ls.drop (i+1))=xO ls[i].ts++Ae (ls.drop (i+1)) from rfl,←eo t] at this;exact this
  ·have eP:=tU g1;have e:ls.drop i=[]:=DW eP;rw [e] at h;refine abZ q hq cr hp hh q 0 t (by omega) (by omega) aB (by rw [AW];omega) fun gQ h1 h2=>?_
   have:=h gQ (by simpa using h1) h2;rw [show Ae []=[] from rfl,mH] at this;exact this
theorem ab3 (q:Nat) (hq:1300≤q) (gg:gs.length≤5) (hg:∀g∈gs,jM g) (gi:ls.length≤5) (nK:∀l∈ls,xV l) (cr:ay.length≤20) (hp:∀p∈ay,gx p) (hh:∀p∈ay,HD p∧SF p.ss):∀(c i:Nat) (t:List UInt8),gs.length - i < c→i≤gs.length→(i=gs.length→t≠[])→t.length+40000000 * (gs.length - i)+600 * ls.length+4000000 * (ay.map wP).sum≤100000000000000→
  (∀gQ,ey 0 0 0 (ay.map wP).sum gQ→gQ.countP r9=ay.length→Wp (K (t++Aq (gs.drop i)++Ae ls++fH gQ,())) Q)→
  Wp (F3 (T q) q c (GR b1 b2 b3 (gs.map dN) (ls.map kJ) ay) (bB t) b1 ((gs.map dN).map cZ) (ae ((gs.map dN).map cZ).length) (i:Int)) (J ft K Q)
 | 0,i,t,hc,_,_,_,_=>by omega
 | c+1,i,t,hc,hi,aB,hl,h=>by
  refine aD ZZ (ai (fun g1=>?_) (fun g1=>?_))
  ·have vy:=bM g1;have af:i < gs.length:=by simpa using vy
   have ok:=hg _ (bL af);have hz:=aoB ok;refine aM SV rfl (a:=dN gs[i]) (by rw [bO,gE af];rfl) ?_;have hn:(gs[i]).nm∈QQ.lR:=by rcases ok.1 with e | e<;>rw [e]<;>decide
   have mf:(gs[i]).nm.length≤1:=by rcases ok.1 with e | e<;>rw [e]<;>decide
   have Qu:qw gs[i].nm gs[i].M gs[i].ps≠[]:=by unfold qw;simp
   have t1:=fun K z hK=>QQ.afI (m:=q) (K:=K) (z:=z) hn mf (by omega) false false ok.2 hK
   rw [G9] at t1;refine aD (t1 _ _ rfl) (Uk (m:=q) (by omega) (by dsimp only;omega) fun n=>gM rfl ?_);dsimp only;rw [w1 (by omega)];refine ab3 q hq gg hg gi nK cr hp hh c (i+1) _ (by omega) (by omega) (fun _ e=>Qu (HB.1 e).2) (by rw [ew];omega) fun gQ h1 h2=>?_
   have:=h gQ h1 h2;rw [tA af,show Aq (gs[i]::gs.drop (i+1))=qw gs[i].nm gs[i].M gs[i].ps++Aq (gs.drop (i+1)) from rfl,←eo t] at this;exact this
  ·have Qb:=tU g1;have eP:gs.length≤i:=by simpa using Qb
   have e:gs.drop i=[]:=DW eP;rw [e] at h;refine ab2 q hq gi nK cr hp hh q 0 t (by omega) (by omega) (aB (by omega)) (by omega) fun gQ h1 h2=>?_
   have:=h gQ h1 h2;rw [show Aq []=[] from rfl,mH] at this;exact this
theorem aek (hm:60000≤m) {o:V×List (List C)} {x:dv.T} (ho:∀n,50000≤n→T n 12 (Ic b1 b2 b3 gs ls ay) []=some o) (hx:ik dv o=some x) (Jo:gs≠[]) (gg:gs.length≤5) (hg:∀g∈gs,jM g) (gi:ls.length≤5) (nK:∀l∈ls,xV l) (cr:ay.length≤20) (hp:∀p∈ay,gx p) (hh:x.1.1=0→∀p∈ay,HD p∧SF p.ss)
  (h0:x.1.1≠0→Wp (K ([],())) Q) (h1:x.1.1=0→∀gQ,ey 0 0 0 (ay.map wP).sum gQ→gQ.countP r9=ay.length→Wp (K (Aq gs++Ae ls++fH gQ,())) Q) :
  Wp (Eo (T m) b1 ((gs.map dN).map cZ) b2 (ls.map kJ) b3 (ay.map dK) K) Q:=by
 obtain ⟨m,rfl⟩:=cG hm;refine bH Xm (kB (ho m (by omega)) hx (ai (fun g=>aA (aC rfl (h0 (D2.1 g)))) (fun g=>?_)));have hz:x.1.1=0:=by simpa using g
 have B7:=hh hz;have hs:=wz wP 17000 ay fun p jJ=>T9 (hp p jJ) (B7 p jJ).1 (B7 p jJ).2
 have:ay.length * 17000≤20 * 17000:=nC _ cr;refine ab3 m (by omega) gg hg gi nK cr hp B7 m 0 [] (by omega) (by omega) (fun e=>absurd (pS.1 e.symm) Jo) (by simp;omega) fun gQ a b=>?_
 exact h1 hz gQ a b
end
end
section
open Go Go.ax PT
open QQ (iJ mO bF oQ qw xO Dc)
theorem afz {b1 b2 b3:Bool} {gs:List GP} {ls:List LK} {ay:List PC} (gg:gs.length≤5) (hg:∀g∈gs,jM g) (gi:ls.length≤5) (nK:∀l∈ls,xV l) (cr:ay.length≤20) (hp:∀p∈ay,gx p) :
  ∃(o:V×List (List C)) (x:dv.T),(∀n,50000≤n→T n 12 (Ic b1 b2 b3 gs ls ay) []=some o)∧ik dv o=some x∧(x.1.1=0→∀p∈ay,HD p∧SF p.ss):=by
 classical
 have h:=aqv (m:=50000) (b1:=b1) (b2:=b2) (b3:=b3) (Q:=fun _ _=>True) (by omega) (ls:=ls) (by omega) nK (gs:=gs) (by omega) hg cr hp (K:=fun x=>if x.1.1=0→∀p∈ay,HD p∧SF p.ss then some (.aq [],[]) else none)
  ⟨fun e a b he => by
    show Wp (if (e = 0 → _) then _ else _) _
    rw [aJ fun h => absurd h he]; exact aA trivial, fun hh => by
    show Wp (if ((0 : Int) = 0 → _) then _ else _) _
    rw [aJ fun _ => hh]; exact aA trivial⟩
 obtain ⟨v,bs,e,_⟩:=h;change aG dv (T 50000 12 (Ic b1 b2 b3 gs ls ay) []) _=_ at e;cases ho:T 50000 12 (Ic b1 b2 b3 gs ls ay) [] with
 | none=>rw [ho] at e;simp [aG] at e
 | some o=>
  rw [ho] at e;simp only [aG] at e;cases hx:ik dv o with
  | none=>rw [hx] at e;cases e
  | some x=>
   rw [hx] at e;refine ⟨o,x,fun n hn=>aeU ho hn,hx,?_⟩;by_cases hP:x.1.1=0→∀p∈ay,HD p∧SF p.ss
   ·exact hP
   ·simp only [az hP] at e;cases e
theorem afC {s:List UInt8} (h:NL s):s.count 10=0:=HC.2 fun hm=>h 10 hm rfl
theorem W3:∀{ls:List LN},(∀l∈ls,NL l.s)→(fH ls).count 10=ls.length
 | [],_=>rfl
 | l::t,h=>by
  rw [vO,AV,W3 fun x hx=>h x (kE _ hx)];unfold rf;rw [AV,AV,afC (h l jT),UJ,az (by decide)];simp;omega
def Dm (gs:List GP):List LN:=gs.flatMap fun g=>GU g.nm g.M g.ps
theorem ab6:∀gs:List GP,Aq gs=fH (Dm gs)
 | []=>rfl
 | g::t=>by
  show qw g.nm g.M g.ps++Aq t=fH (GU g.nm g.M g.ps++Dm t);rw [sT,ab6 t,ab4]
def wG (g:GP):Nat:=2+g.ps.length
theorem ab7:∀{gs:List GP},(∀g∈gs,jM g)→ey 0 0 0 (gs.map wG).sum (Dm gs)
 | [],_=>ey.nil
 | g::t,h=>(ab5 (h g jT).1 (h g jT).2).app (ab7 fun x hx=>h x (kE _ hx))
theorem MY {g:GP} (h:jM g):wG g≤10:=by
 have:=h.2.2.2.2.1;unfold wG;omega
theorem apV {gs:List GP} {ay:List PC} (gg:gs.length≤5) (hg:∀g∈gs,jM g) (cr:ay.length≤20) (hp:∀p∈ay,gx p) (hh:∀p∈ay,HD p∧SF p.ss) {gQ:List LN} (h:ey 0 0 0 (ay.map wP).sum gQ) :
  ey 0 0 0 ((gs.map wG).sum+(ay.map wP).sum) (Dm gs++gQ)∧(gs.map wG).sum≤50∧(ay.map wP).sum≤340000∧(fH (Dm gs++gQ)).length≤1900000000000:=by
 have hs:=wz wP 17000 ay fun p jJ=>T9 (hp p jJ) (hh p jJ).1 (hh p jJ).2
 have:ay.length * 17000≤20 * 17000:=nC _ cr;have kU:=wz wG 10 gs fun g qb=>MY (hg g qb)
 have sg:=(ab7 hg).app h;have:=sg.sz;exact ⟨sg,by omega,by omega,by omega⟩
section
variable {Q:V→List (List C)→Prop}
theorem aqg (c:UInt8):(ae c.toNat==10)=(c==10):=by
 rw [show (10:Int)=((10:Nat):Int) from rfl,LC];by_cases h:c=10
 ·subst h;rfl
 ·rw [rR.2 h];exact cg fun e=>h (UInt8.toNat_inj.1 e)
theorem AL {i:Nat} (h:i≤100000000000000):ak ((i:Int)+1)=((i+1:Nat):Int):=fY
theorem aaH (q:Nat) (w:Nat) (s:List UInt8) (hs:s.length≤1900000000000) (h:s.count 10=w) (hQ:Q (.one (bC true)) []):∀(c i:Nat),s.length - i < c→i≤s.length→
  Wp (CF (T q) q c (w:Int) s (((s.take i).count 10:Nat):Int) (i:Int)) Q
 | 0,i,hc,_=>by omega
 | c+1,i,hc,hi=>by
  refine aD akI (ai (fun g1=>?_) (fun g1=>?_))
  ·have af:i < s.length:=by
    have:=rU g1;rw [bJ] at this;omega
   have aR:(s.take i).count 10≤s.length:=iQ DV (by simp;omega);have ih:=aaH q w s hs h hQ c (i+1) (by omega) (by omega);rw [pT,gE af,AV] at ih;refine jd rfl (fU (gE af) ?_);rw [aqg,AL (by omega),AL (by omega)];refine ai (fun g=>?_) (fun g=>?_)
   ·have:s[i]=10:=by simpa using g
    rw [this] at ih;exact ih
   ·have:¬ (s[i]==10)=true:=by rw [g];simp
    simp only [HP,List.count_singleton,az this,gW] at ih;exact ih
  ·have eP:s.length≤i:=by
    have:=kF g1;rw [bJ] at this;omega
   rw [yF eP,h];refine aA ?_;rw [show ((w:Int)==(w:Int))=true from HQ _];exact hQ
end
end
section
open Go Go.ax
abbrev TO:List D:=[.int .i64 0,.str [],.str [],.str [],.str [],.int .i64 (-1),.sl (.im true) 1 [],.sl (.im true) 3 [],.sl (.im true) 3 [],.int .i64 (-1)]
abbrev SA:List D:=[.str [109,97,105,110],.sl (.im true) 3 [],.sl (.im true) 6 [],.sl (.im false) 10 [TO]]
theorem afy (m:Nat):T (m+60) 12 [.agg [lC (.im true) 3 [],lC (.im true) 2 [],lC (.im false) 4 [SA]]] []=some (.agg [iC 0,iC 0,iC 0],[]):=by kernel_rfl
end
section
open Go Go.ax
theorem aox (m:Nat):T (m+60) 36 [pE,.agg [sC [109,97,105,110],lC (.im true) 3 [],lC (.im true) 6 [],lC (.im false) 10 [TO]]] [bx bl ((),(.im true,[]),())]=some (.aq [],[bx bl ((),(.own,D.db [112,114,111,99,32,109,97,105,110,40,41,32,123,10,32,32,115,116,111,112,10,125,10]),())]):=by kernel_rfl
theorem apT (m:Nat):T (m+60) 15 [.one (lC (.im false) 6 [[(.int .i64 0),(.str [120]),(.int .i64 0),(.str []),(.int .i64 (-1)),(.int .i64 (-1))],[(.int .i64 1),(.str []),(.int .i64 (-1)),(.str []),(.int .i64 (-1)),(.int .i64 (-1))],[(.int .i64 6),(.str []),(.int .i64 0),(.str []),(.int .i64 0),(.int .i64 1)]]),.one (iC 2)] []=some (.one (sC [40,120,32,43,32,45,49,41]),[]):=by kernel_rfl
end
section
open Go Go.ax
theorem ap3 {o:OR} {K:au eN×Unit→OR} {z:OR} {a b c:Int} (h:o=some (.agg [iC a,iC b,iC c],[])) (h2:K ((a,b,c,()),())=z):aG dv o K=z:=DM (v:=(a,b,c,())) h rfl h2
theorem ap5 {o:OR} {K:Unit×au bl×Unit→OR} {z:OR} {p:au bl} (h:o=some (.aq [],[bx bl p])) (h2:K ((),p,())=z):aG j8 o K=z:=T1 h h2
theorem ap7 {o:OR} {K:BB×au yr×Unit→OR} {z:OR} {s:BB} (h:o=some (.one (sC s),[bx yr ((),(),())])) (h2:K (s,((),(),()),())=z):aG Te o K=z:=by
 subst h;exact h2
theorem aoy (m:Nat):T (m+61) 11 [.agg [lC (.im true) 3 [],lC (.im true) 2 [],lC (.im false) 4 [SA]]] []=some (.one (sC [112,114,111,99,32,109,97,105,110,40,41,32,123,10,32,32,115,116,111,112,10,125,10]),[]):=by
 refine Xm _ (ap3 (afy m) (bU rfl ?_));rw [ZZ];refine bU rfl ?_;rw [ZY];refine bU rfl ?_;rw [Re];refine dD rfl (iI (i:=0) (v:=([109,97,105,110],(true,[]),(true,[]),(false,[TO]),())) rfl (r:=SA) rfl (by decide) rfl (ap5 (aox m) ?_));dsimp only;rw [Re];exact bU (by decide) (ap7 (TU (m+60) (by omega) [112,114,111,99,32,109,97,105,110,40,41,32,123,10,32,32,115,116,111,112,10,125,10] (by decide) (by decide)) rfl)
theorem aiC {n:Nat} (hn:100≤n):T n 9 [] []=some (.one (bC true),[]):=by
 obtain ⟨m,rfl⟩:=bm 62 n;exact agf _ (tf (apT (m+1)) (dD rfl (tf (aoy m) (dD rfl (tf (QQ.abK (m+61) (by omega) (k:=5) (x:=[112,46,97]) (by decide)) rfl)))))
end
section
open Go Go.ax PT
open QQ (iJ mO bF oQ qw xO Dc)
section
variable {Q:V→List (List C)→Prop} {gs:List GP} {ay:List PC}
theorem aaJ (q:Nat) {i:Nat} {p:PC} (hg:ay[i]? = some p) (qk:gx p) (kr:p.ss.length≤80) {r2:RR} {c1 w0:Nat} (FK:w0≤1000000000)
  (hZ:Wp (CG (T q) q c1 (GR false true false (gs.map dN) r2 ay) ((w0+(p.ss.map gl).sum:Nat):Int) (ak ((i:Int)+1))) Q):∀(c j:Nat),p.ss.length - j < c→j≤p.ss.length→
  Wp (zV (T q) q c1 c (GR false true false (gs.map dN) r2 ay) ((w0+((p.ss.take j).map gl).sum:Nat):Int) (i:Int) (j:Int)) Q
 | 0,j,hc,_=>by omega
 | c+1,j,hc,hj=>by
  have d:∀a:PC,3+1≤(dK a).length∧dS [.im 10] (List.take 1 (List.drop 3 (dK a)))=some ((a.sb,a.ss.map cq),()):=fun a=>⟨by simp [dK],rfl⟩
  refine aD akK (aM (enc:=dK) (f:=fun p=>((p.sb,p.ss.map cq),())) d rfl hg (ai (fun g1=>?_) (fun g1=>?_)))
  ·have af:=bM g1;have hs:p.ss[j]? = some p.ss[j]:=gE af;have ZC:=(qk.s2 _ (bL af)).2.2.2;have bound:((p.ss.take j).map gl).sum≤80 * 202:=by
    have:=wz gl 202 (p.ss.take j) fun s lN=>by
     have:=(qk.s2 s (tD lN)).2.2.2;unfold gl;split
     ·omega
     ·split<;>omega
    have h2:(p.ss.take j).length≤80:=by simp;omega
    have:(p.ss.take j).length * 202≤80 * 202:=nC _ h2;omega
   have ih:=aaJ q hg qk kr FK hZ c (j+1) (by omega) (by omega);rw [pT,hs,eg,HL] at ih;simp only [HP,fS,uN,tF,DY,gW] at ih;refine aM (enc:=dK) (f:=fun p=>((p.sb,p.ss.map cq),())) d rfl hg (aM (enc:=cq) (f:=tS) (fun a=>⟨by simp [cq],rfl⟩) rfl hs ?_);rw [w1 (i:=j) (by omega)];generalize p.ss[j]=s at ZC ih;have hl:ae (s.ws.map cW).length=(s.ws.length:Int):=by rw [bJ,cf]
   generalize hB:((p.ss.take j).map gl).sum=B at bound ih;have e1:ak (((w0+B:Nat):Int)+1)=((w0+B+1:Nat):Int):=fY;have e2:ak (((w0+B+1:Nat):Int)+1)=((w0+B+2:Nat):Int):=fY;have e3:ak (((w0+B+1:Nat):Int)+2)=((w0+(B+3):Nat):Int):=fY;have e4:ak (2 * (s.ws.length:Int))=((2 * s.ws.length:Nat):Int):=fY;have e5:ak (((w0+B+2:Nat):Int)+((2 * s.ws.length:Nat):Int))=((w0+(B+(2+2 * s.ws.length)):Nat):Int):=fY;refine ai (fun g=>?_) (fun g=>ai (fun g'=>?_) (fun g'=>?_))
   ·have hk:s.kd=3:=by have:(s.kd==3)=true:=g;simpa using this
    rw [show gl s=3 by unfold gl;rw [aJ hk]] at ih;rw [e1,e3];exact ih
   ·have hk:s.kd=5:=by have:(s.kd==5)=true:=g';simpa using this
    rw [show gl s=2+2 * s.ws.length by unfold gl;rw [az (by omega),aJ hk]] at ih;show Wp (zV (T q) q c1 c _ (ak (ak (ak (((w0+B:Nat):Int)+1)+1)+ak (2 * ae (s.ws.map cW).length))) _ _) Q;rw [hl,e1,e2,e4,e5];exact ih
   ·have h3:s.kd≠3:=by have:(s.kd==3)=false:=g;simpa using this
    have h5:s.kd≠5:=by have:(s.kd==5)=false:=g';simpa using this
    rw [show gl s=1 by unfold gl;rw [az h3,az h5]] at ih;rw [e1];exact ih
  ·rw [yF (tU g1)];exact hZ
theorem aaI (q:Nat) (hq:100≤q) (cr:ay.length≤20) (hp:∀p∈ay,gx p) (hh:∀p∈ay,HD p∧SF p.ss) {r2:RR} {w0:Nat} (FK:w0≤1000)
  (hZ:∀K:ft.T→OR,K=(fun v7=>CF (T q) q q ((w0+(ay.map wP).sum:Nat):Int) v7.1 0 0)→Wp (Eo (T q) false ((gs.map dN).map cZ) true r2 false (ay.map dK) K) Q):∀(c i:Nat),ay.length - i < c→i≤ay.length→
  Wp (CG (T q) q c (GR false true false (gs.map dN) r2 ay) ((w0+((ay.take i).map wP).sum:Nat):Int) (i:Int)) Q
 | 0,i,hc,_=>by omega
 | c+1,i,hc,hi=>by
  refine aD akJ (ai (fun g1=>?_) (fun g1=>?_))
  ·have af:=bM g1;have hg:ay[i]? = some ay[i]:=gE af;have hm:=bL af;have e:=ad5 (hp _ hm) (hh _ hm).2;have bound:((ay.take i).map wP).sum≤20 * 17000:=by
    have:=wz wP 17000 (ay.take i) fun p jJ=>T9 (hp p (tD jJ)) (hh p (tD jJ)).1 (hh p (tD jJ)).2
    have h2:(ay.take i).length≤20:=by simp;omega
    have:(ay.take i).length * 17000≤20 * 17000:=nC _ h2;omega
   have ih:=aaI q hq cr hp hh (r2:=r2) FK hZ c (i+1) (by omega) (by omega);rw [pT,hg,eg,HL] at ih;simp only [HP,fS,uN,tF,DY,gW,e] at ih;rw [fY (z:=((w0+((ay.take i).map wP).sum:Nat):Int)+2) (n:=w0+((ay.take i).map wP).sum+2) (by omega) (by omega)];have kr:=(hh _ hm).1.hs
   have := aaJ q hg (hp _ hm) kr (gs := gs) (r2 := r2) (c1 := c) (Q := Q) (w0 := w0 + ((ay.take i).map wP).sum + 2) (by omega) (by
     rw [w1 (by omega), show w0 + ((ay.take i).map wP).sum + 2 + ((ay[i]).ss.map gl).sum = w0 + (((ay.take i).map wP).sum + (2 + ((ay[i]).ss.map gl).sum)) by omega]
     exact ih) q 0 (by omega) (by omega)
   rw [A0,show (([]:List PS).map gl).sum=0 from rfl,gW] at this;exact this
  ·have:=hZ _ rfl;rw [yF (tU g1)];exact this
theorem aaK (q:Nat) (gg:gs.length≤5) (hg:∀g∈gs,jM g) {r2:RR} (hZ:Wp (CG (T q) q q (GR false true false (gs.map dN) r2 ay) (((gs.map wG).sum:Nat):Int) 0) Q):∀(c i:Nat),gs.length - i < c→i≤gs.length→
  Wp (Kc (T q) q c (GR false true false (gs.map dN) r2 ay) ((((gs.take i).map wG).sum:Nat):Int) (i:Int)) Q
 | 0,i,hc,_=>by omega
 | c+1,i,hc,hi=>by
  refine aD akL (ai (fun g1=>?_) (fun g1=>?_))
  ·have vy:=bM g1;have af:i < gs.length:=by simpa using vy
   have YS:gs[i]? = some gs[i]:=gE af;have hb:=MY (hg _ (bL af));have bound:((gs.take i).map wG).sum≤5 * 10:=by
    have:=wz wG 10 (gs.take i) fun p jJ=>MY (hg p (tD jJ))
    have h2:(gs.take i).length≤5:=by simp;omega
    have:(gs.take i).length * 10≤5 * 10:=nC _ h2;omega
   have ih:=aaK q gg hg hZ c (i+1) (by omega) (by omega);rw [pT,YS,eg,HL] at ih;simp only [HP,fS,uN,tF,DY,gW] at ih;refine aM (enc:=cZ) (f:=fun p=>((p.pt,p.gR),())) (fun a=>⟨by simp [cZ],rfl⟩) rfl (a:=dN gs[i]) (by rw [bO,YS];rfl) ?_;have hl:ae (dN gs[i]).gR.length=((gs[i].ps.length:Nat):Int):=by
    rw [bJ];show (((gs[i].ps.map QQ.cP).length:Nat):Int)=_;rw [cf]
   dsimp only;have e:wG gs[i]=2+gs[i].ps.length:=rfl;rw [e] at ih hb;generalize ((gs.take i).map wG).sum=S at bound ih;rw [w1 (by omega),hl,fY (z:=(S:Int)+2) (n:=S+2) (by omega) (by omega),fY (n:=S+(2+gs[i].ps.length)) (by omega) (by omega)];exact ih
  ·have Qb:=tU g1;rw [yF (by simpa using Qb)];exact hZ
theorem anF {m:Nat} (hm:2000000000000≤m) {l:List Int} (hl:l.length * 8≤140737488355328) {b:Bool}:T m 4 [.one (lC (.im b) 1 (l.map bF))] []=some (.one (bC true),[]):=by
 obtain ⟨m,rfl⟩:=cG hm;suffices h:Wp _ fun v bs=>v = .one (bC true)∧bs=[] by
  obtain ⟨v,bs,e,rfl,rfl⟩:=h;exact age _ e
 refine aD (nX (aiC (n:=m) (by omega)) rfl) (eH rfl (aqF (m:=m) (by omega) hl fun gs ay Jo gg hg hpn cr hp=>?_));obtain ⟨o,x,ho,hx,hh⟩:=afz (b1:=false) (b2:=true) (b3:=false) (gs:=gs) (ls:=[]) (ay:=ay) (by omega) hg (by simp) (fun l hl=>by cases hl) cr hp;refine kB (ho m (by omega)) hx (ai (fun g=>?_) (fun g=>?_))
 ·have hz:x.1.1≠0:=D2.1 g;refine aek (ls:=[]) (m:=m) (by omega) ho hx Jo (by omega) hg (by simp) (fun l hl=>by cases hl) cr hp hh (fun _=>?_) (fun h=>absurd h hz);exact aA ⟨rfl,rfl⟩
 ·have hz:x.1.1=0:=by simpa using g
  have B7:=hh hz;have kU:=wz wG 10 gs fun g qb=>MY (hg g qb)
  refine aaK (Q:=fun v bs=>v = .one (bC true)∧bs=[]) m (by omega) hg ?_ m 0 (by omega) (by omega);have:=aaI (Q:=fun v bs=>v = .one (bC true)∧bs=[]) (gs:=gs) m (by omega) cr hp B7 (r2:=[]) (w0:=(gs.map wG).sum) (by omega) (fun K hK=>?_) m 0 (by omega) (by omega)
  ·rw [A0,show (([]:List PC).map wP).sum=0 from rfl,gW] at this;exact this
  ·subst hK;refine aek (ls:=[]) (m:=m) (by omega) ho hx Jo (by omega) hg (by simp) (fun l hl=>by cases hl) cr hp hh (fun h=>absurd hz h) (fun _ gQ h1 _=>?_);obtain ⟨sg,_,_,hlen⟩:=apV (by omega) hg cr hp B7 h1;rw [show Ae []=[] from rfl,mH,ab6,←sT];have:=aaH m ((gs.map wG).sum+(ay.map wP).sum) (fH (Dm gs++gQ)) hlen (by rw [W3 fun l hl=>(sg.ok l hl).1.1,sg.len]) (Q:=fun v bs=>v = .one (bC true)∧bs=[]) ⟨rfl,rfl⟩ m 0 (by omega) (by omega);exact this
end
end
end Go.Proofs.YtfmpdgeiodnnfaaGreatDoor
namespace Go.ax
section
def Gt (P:Program):Nat→List Field→Option Nat
 | o,[]=>some o
 | o,f::t=>if f.offset=o then Gt P (o+P.cellsOf f.type) t else none
def lV (P:Program):Nat→TypeId→Bool
 | 0,_=>false
 | n+1,t=>match P.underlying t with
  | some .bool=>P.cellsOf t==1
  | some (.int _)=>P.cellsOf t==1
  | some .string=>P.cellsOf t==1
  | some (.slice e)=>P.cellsOf t==1&&decide (0 < P.cellsOf e)&&lV P n e
  | some (.struct fs)=>fs.toList.all (fun f=>lV P n f.type)&&Gt P 0 fs.toList==some (P.cellsOf t)
  | _=>false
theorem mapM_mono {α β:Type} {f g:α→Option β}:∀{l:List α} {ys:List β},l.mapM f=some ys→(∀i∈l,∀y,f i=some y→g i=some y)→l.mapM g=some ys
 | [],ys,h,_=>by simpa using h
 | x::l,ys,h,hm=>by
  rw [mI] at h ⊢;obtain ⟨y,h1,h2⟩:=bind_some h;obtain ⟨t,h3,h4⟩:=bind_some h2;rw [hm x (jT ..) y h1];show (List.mapM g l >>= fun bs=>pure (y::bs))=some ys;rw [mapM_mono h3 (fun i hi=>hm i (kE _ hi))];exact h4
section
variable {H:Type} {enc:TypeId×Value→H} {P:Program} {W W':World} {rC:Nat→Bool}
theorem afu (hold:∀B,B < W.heap.size→W'.heap[B]? = W.heap[B]?) {b n:Nat} {a:Addr} {cs:List Value} (h:W.cells? b a n=some cs):W'.cells? b a n=some cs:=by
 unfold World.cells? at h ⊢;split at h
 ·rename_i hb;rw [aJ hb];refine mapM_mono h (fun i _ y hy=>?_);have af:(a.add i).block < W.heap.size:=by
   unfold World.cell? at hy;split at hy
   ·rename_i hc;exact (lG.1 hc).1
   ·cases hy
  unfold World.cell? at hy ⊢;rw [hold _ af];exact hy
 ·cases h
theorem afv {b n:Nat} {a:Addr} {cs:List Value} (hn:0 < n) (h:W.cells? b a n=some cs):a.block < W.heap.size:=by
 unfold World.cells? at h;split at h
 ·cases n with
  | zero=>omega
  | succ n=>
   rw [aeL,mI] at h;obtain ⟨y,h1,_⟩:=bind_some h;unfold World.cell? at h1;split at h1
   ·rename_i hc;exact (lG.1 hc).1
   ·cases h1
 ·cases h
theorem aa0 {α β:Type} {f:α→Option β} {g:Nat→α→Option β} (hg:∀a b i y,a≤b→g a i=some y→g b i=some y):∀{l:List α} {ys:List β},l.mapM f=some ys→(∀i∈l,∀y,f i=some y→∃m,g m i=some y)→∃m,l.mapM (g m)=some ys
 | [],ys,h,_=>⟨0,by simpa using h⟩
 | x::l,ys,h,hm=>by
  rw [mI] at h;obtain ⟨y,h1,h2⟩:=bind_some h;obtain ⟨t,h3,h4⟩:=bind_some h2;obtain ⟨m1,k1⟩:=hm x (jT ..) y h1;obtain ⟨m2,k2⟩:=aa0 hg h3 (fun i hi=>hm i (kE _ hi));refine ⟨max m1 m2,?_⟩;rw [mI,hg m1 _ x y (Nat.le_max_left ..) k1];show (List.mapM (g (max m1 m2)) l >>= fun bs=>pure (y::bs))=some ys;rw [mapM_mono k2 (fun i _ y hy=>hg m2 _ i y (Nat.le_max_right ..) hy)];exact h4
theorem aqa (hold:∀B,B < W.heap.size→W'.heap[B]? = W.heap[B]?) (uh:∀b,b < W.heap.size→rC b=true):∀(n:Nat) (t:TypeId) (fuel:Nat) (cs:List Value) (x:DataW H×List MemPlace),lV P n t=true→
  DataW.trod enc P W 0 (fun _=>true) true fuel t cs=some x→∃m,DataW.trod enc P W' 0 rC true m t cs=some x:=by
 intro n;induction n with
 | zero=>intro t fuel cs x hs;simp [lV] at hs
 | succ n ih=>
  intro t fuel cs x hs h;simp only [lV] at hs;split at hs
  ·rename_i hu;cases fuel with
   | zero=>simp [DataW.trod] at h
   | succ fuel=>
    refine ⟨1,?_⟩;rw [DataW.trod_step] at h ⊢;unfold DataW.trodStep at h ⊢;simp only [hu] at h ⊢;split at h<;>simp_all
  ·rename_i hu;cases fuel with
   | zero=>simp [DataW.trod] at h
   | succ fuel=>
    refine ⟨1,?_⟩;rw [DataW.trod_step] at h ⊢;unfold DataW.trodStep at h ⊢;simp only [hu] at h ⊢;split at h<;>simp_all
  ·rename_i hu;cases fuel with
   | zero=>simp [DataW.trod] at h
   | succ fuel=>
    refine ⟨1,?_⟩;rw [DataW.trod_step] at h ⊢;unfold DataW.trodStep at h ⊢;simp only [hu] at h ⊢;split at h<;>simp_all
  ·rename_i e hu;simp only [bK,fy] at hs;obtain ⟨⟨_,E3⟩,mj⟩:=hs;rcases Go.Deep.open_slice hu h with ⟨rfl,rfl⟩ | ⟨a,len,cap,m,k,Dd,Pl,rfl,hb,hl,hm,Ft,rfl,hx⟩
   ·refine ⟨1,?_⟩;rw [DataW.trod_step];unfold DataW.trodStep;simp only [hu]
   ·have Fs:m=cap:=by simpa using Ft
    subst Fs;have fG:∀i,i < m→∃cs n,W'.cells? 0 (a.add (i * P.cellsOf e)) (P.cellsOf e)=some cs∧DataW.trod enc P W' 0 rC true n e cs=some (Dd i,Pl i):=by
     intro i hi;obtain ⟨eA,h1,h2⟩:=hx i hi;obtain ⟨m',h3⟩:=ih e k eA _ mj h2;exact ⟨eA,m',afu hold h1,h3⟩
    cases kU:rC a.block with
    | true=>exact Go.Deep.shut_slice_whole_cells hu hb hl hm kU Dd Pl fG
    | false=>
     have xh:m=0:=by
      rcases Ni m with h0 | h0
      ·exact h0
      ·obtain ⟨eA,h1,_⟩:=hx 0 h0;have:=uh _ (afv E3 h1);have e1:(a.add (0 * P.cellsOf e)).block=a.block:=by first | rfl | (unfold Addr.add;split<;>rfl) | (unfold Addr.add;simp)
       rw [e1,kU] at this;cases this
     subst xh;obtain rfl:len=0:=by omega
     exact Go.Deep.shut_slice_cells hu hb hl hm kU Dd Pl (fun i hi=>by omega)
  ·rename_i fs hu;simp only [bK,lH] at hs;cases fuel with
   | zero=>simp [DataW.trod] at h
   | succ fuel=>
    rw [DataW.trod_step] at h;unfold DataW.trodStep at h;simp only [hu] at h;split at h
    ·rename_i hl;obtain ⟨xs,h1,h2⟩:=bG h;obtain ⟨m,h3⟩:=aa0 (g:=fun m (f:Field)=>DataW.trod enc P W' 0 rC true m f.type ((cs.drop f.offset).take (P.cellsOf f.type))) (fun a b i y jW hy=>DataW.trod_le jW hy) h1 (fun f hf y hy=>ih f.type fuel _ y (hs.1 f hf) hy);refine ⟨m+1,?_⟩;rw [DataW.trod_step];unfold DataW.trodStep;simp only [hu];rw [aJ hl,h3,h2];rfl
    ·cases h
  ·cases hs
end
end
section
mutual
def gH {H:Type} (P:Program):Nat→TypeId→DataW H→Option (List D)
 | 0,_,_=>none
 | n+1,t,d=>match P.underlying t,d with
  | some .bool,.lit (.bool b)=>some [.bool b]
  | some (.int _),.lit (.int k z)=>some [.int k z]
  | some .string,.lit (.string l)=>some [.str l]
  | some (.slice e),.nil=>some [.sl (.im true) (P.cellsOf e) []]
  | some (.slice e),.slice elems _=>(elems.mapM (gH P n e)).map fun rows=>[.sl (.im false) (P.cellsOf e) rows]
  | some (.struct fs),.agg ds=>w6 P n fs.toList ds
  | _,_=>none
def w6 {H:Type} (P:Program):Nat→List Field→List (DataW H)→Option (List D)
 | _,[],[]=>some []
 | n,f::fs,d::ds=>(gH P n f.type d).bind fun x=>(w6 P n fs ds).map (x ++ ·)
 | _,_,_=>none
end
section
variable {H:Type} {enc:TypeId×Value→H} {P:Program} {W:World} {L:aw}
theorem WX {b n:Nat} {a:Addr} {cs:List Value} (h:W.cells? b a n=some cs):cs.length=n∧∀j,j < n→W.cell? (a.add j)=cs[j]?:=by
 unfold World.cells? at h;split at h
 ·have hl:∀(l:List Nat) (ys:List Value),l.mapM (fun i=>W.cell? (a.add i))=some ys→ys.length=l.length∧∀(j:Nat) i,l[j]? = some i→W.cell? (a.add i)=ys[j]?:=by
   intro l;induction l with
   | nil=>
    intro ys hy;have:ys=[]:=by simpa using hy.symm
    subst this;exact ⟨rfl,fun j i hj=>by simp at hj⟩
   | cons x l ih=>
    intro ys hy;rw [mI] at hy;obtain ⟨y,h1,h2⟩:=bind_some hy;obtain ⟨t,h3,h4⟩:=bind_some h2;cases h4;obtain ⟨g1,g2⟩:=ih t h3;refine ⟨by simp [g1],fun j i hj=>?_⟩;cases j with
    | zero=>simp at hj;subst hj;simpa using h1
    | succ j=>simpa using g2 j i (by simpa using hj)
  obtain ⟨h1,h2⟩:=hl _ _ h;refine ⟨by simpa using h1,fun j hj=>h2 j j (by simp [hj])⟩
 ·cases h
theorem WU {a:Addr} {u:Value} (h:W.cell? a=some u):a.spot=none∧∃cur e fz,W.heap[a.block]? = some (.cells cur e fz)∧cur[a.off]? = some u:=by
 unfold World.cell? at h;split at h
 ·rename_i c e fz hc;split at h
  ·cases h
  ·rename_i hs;refine ⟨by simpa using hs,c,e,fz,hc,h⟩
 ·cases h
def tH (W:World) (L:aw) (l:List D) (cs:List Value):Prop:=l.length=cs.length∧∀(j:Nat) y u,l[j]? = some y→cs[j]? = some u→fK W L y u
theorem tH.app {l l':List D} {cs eA:List Value} (h:tH W L l cs) (h':tH W L l' eA):tH W L (l++l') (cs++eA):=by
 refine ⟨by simp [h.1,h'.1],fun j y u hy hu=>?_⟩;by_cases hj:j < l.length
 ·rw [od hj] at hy;rw [od (by rw [←h.1];exact hj)] at hu;exact h.2 j y u hy hu
 ·rw [qI (by omega)] at hy;rw [qI (by rw [←h.1];omega),←h.1] at hu;exact h'.2 _ y u hy hu
theorem X2 {n fuel:Nat} (ih:∀(t:TypeId) (cs:List Value) (x:DataW H×List MemPlace),lV P n t=true→DataW.trod enc P W 0 (fun _=>true) true fuel t cs=some x→∃l,gH P n t x.1=some l∧tH W L l cs∧cs.length=P.cellsOf t) (cs:List Value) :
  ∀(fl:List Field) (o e:Nat) {xs:List (DataW H×List MemPlace)},Gt P o fl=some e→(∀f∈fl,lV P n f.type=true)→cs.length=e→(fl.mapM fun f=>DataW.trod enc P W 0 (fun _=>true) true fuel f.type ((cs.drop f.offset).take (P.cellsOf f.type)))=some xs→
   ∃l,w6 P n fl (xs.map (·.1))=some l∧tH W L l (cs.drop o)
 | [],o,e,xs,h,_,hl,hx=>by
  simp only [Gt,aj] at h;have:xs=[]:=by simpa using hx.symm
  subst this;refine ⟨[],by simp [w6],?_,fun j y u hy=>by simp at hy⟩;simp;omega
 | f::fl,o,e,xs,h,hs,hl,hx=>by
  simp only [Gt] at h;split at h
  ·rename_i ho;rw [mI] at hx;obtain ⟨y,h1,h2⟩:=bind_some hx;obtain ⟨t,h3,h4⟩:=bind_some h2;cases h4;obtain ⟨l1,k1,k2,k3⟩:=ih _ _ _ (hs f (jT ..)) h1;obtain ⟨l2,k4,k5⟩:=X2 ih cs fl _ e h (fun g hg=>hs g (kE _ hg)) hl h3;refine ⟨l1++l2,by simp [w6,k1,k4],?_⟩;have:=k2.app k5;rw [ho,←UK,List.take_append_drop] at this;exact this
  ·cases h
theorem ap' (hL:∀B cur e fz,W.heap[B]? = some (.cells cur e fz)→L B=some .bh):∀(n:Nat) (fuel:Nat) (t:TypeId) (cs:List Value) (x:DataW H×List MemPlace),lV P n t=true→
  DataW.trod enc P W 0 (fun _=>true) true fuel t cs=some x→∃l,gH P n t x.1=some l∧tH W L l cs∧cs.length=P.cellsOf t:=by
 intro n;induction n with
 | zero=>intro fuel t cs x hs;simp [lV] at hs
 | succ n ih=>
  intro fuel t cs x hs h;simp only [lV] at hs;have one:∀{y:D} {u:Value},fK W L y u→tH W L [y] [u]:=by
   intro y u hr;refine ⟨rfl,fun j y' u' h1 h2=>?_⟩;cases j with
   | zero=>simp at h1 h2;subst h1;subst h2;exact hr
   | succ j=>simp at h1
  cases fuel with
  | zero=>simp [DataW.trod] at h
  | succ fuel=>
  split at hs
  ·rename_i hu;simp only [eV] at hs;rw [DataW.trod_step] at h;unfold DataW.trodStep at h;rw [hu] at h;have:∃b,cs=[.bool b]∧x=(.lit (.bool b),[]):=by
    rcases cs with _ | ⟨c,_ | ⟨c2,t⟩⟩
    ·simp at h
    ·cases c<;>simp at h;exact ⟨_,rfl,h.symm⟩
    ·simp at h
   obtain ⟨b,rfl,rfl⟩:=this;exact ⟨[.bool b],by simp [gH,hu],one .bool,by simp [hs]⟩
  ·rename_i k hu;simp only [eV] at hs;rw [DataW.trod_step] at h;unfold DataW.trodStep at h;rw [hu] at h;have:∃z,cs=[.int k z]∧x=(.lit (.int k z),[]):=by
    rcases cs with _ | ⟨c,_ | ⟨c2,t⟩⟩
    ·simp at h
    ·cases c<;>simp at h;obtain ⟨⟨rfl,_⟩,h⟩:=h;exact ⟨_,rfl,h.symm⟩
    ·simp at h
   obtain ⟨z,rfl,rfl⟩:=this;exact ⟨[.int k z],by simp [gH,hu],one .int,by simp [hs]⟩
  ·rename_i hu;simp only [eV] at hs;rw [DataW.trod_step] at h;unfold DataW.trodStep at h;rw [hu] at h;have:∃z:ByteArray,cs=[.string z]∧x=(.lit (.string z.data.toList),[]):=by
    rcases cs with _ | ⟨c,_ | ⟨c2,t⟩⟩
    ·simp at h
    ·cases c<;>simp at h;exact ⟨_,rfl,h.2.symm⟩
    ·simp at h
   obtain ⟨z,rfl,rfl⟩:=this;refine ⟨[.str z.data.toList],by simp [gH,hu],one ?_,by simp [hs]⟩;exact .str
  ·rename_i e hu;simp only [bK,fy,eV] at hs;obtain ⟨⟨dF,E3⟩,mj⟩:=hs;rcases Go.Deep.open_slice hu h with ⟨rfl,rfl⟩ | ⟨a,len,cap,m,k,Dd,Pl,rfl,hb,hl,hm,Ft,rfl,hx⟩
   ·exact ⟨[.sl (.im true) (P.cellsOf e) []],by simp [gH,hu],one .nil,by simp [dF]⟩
   ·have Fs:m=cap:=by simpa using Ft
    subst Fs;have tZ:∀i,i < m→∃eA l,W.cells? 0 (a.add (i * P.cellsOf e)) (P.cellsOf e)=some eA∧gH P n e (Dd i)=some l∧tH W L l eA∧eA.length=P.cellsOf e:=by
     intro i hi;obtain ⟨eA,h1,h2⟩:=hx i hi;obtain ⟨l,k1,k2,k3⟩:=ih k e eA _ mj h2;exact ⟨eA,l,h1,k1,k2,k3⟩
    let R:Nat→List D:=fun i=>(gH P n e (Dd i)).getD []
    have vG:(((List.range len).map Dd).mapM (gH P n e))=some ((List.range len).map R):=by
     have:∀(l:List Nat),(∀i∈l,i < m)→((l.map Dd).mapM (gH P n e))=some (l.map R):=by
      intro l;induction l with
      | nil=>intro _;rfl
      | cons i l ihl=>
       intro hi;obtain ⟨_,r,_,k1,_⟩:=tZ i (hi i (jT ..));rw [fS,mI,k1];show (List.mapM (gH P n e) (l.map Dd) >>= fun bs=>pure (r::bs))=_;rw [ihl (fun i h=>hi i (kE _ h))];simp [R,k1]
     exact this _ (fun i hi=>by have:=tE.1 hi;omega)
    refine ⟨[.sl (.im false) (P.cellsOf e) ((List.range len).map R)],by simp [gH,hu,vG],one ?_,by simp [dF]⟩;by_cases nJ:len=0
    ·subst nJ;exact .mB
    ·
     obtain ⟨gX,l0,h1,_,_,_⟩:=tZ 0 (by omega);obtain ⟨g1,g2⟩:=WX h1;have hc:=g2 0 E3;obtain ⟨u0,sJ⟩:∃u,gX[0]? = some u:=⟨gX[0]'(by rw [g1];exact E3),ke _⟩
     rw [sJ] at hc;obtain ⟨uh,cur,te,fz,hB,_⟩:=WU hc;have ha0:((a.add (0 * P.cellsOf e)).add 0)=a:=by simp [Addr.add]
     rw [ha0] at uh hB;obtain ⟨B,o,sp⟩:=a;simp only at uh hB;subst uh;have ua:∀i c,i < m→c < P.cellsOf e→∃eA l,gH P n e (Dd i)=some l∧tH W L l eA∧eA.length=P.cellsOf e∧cur[o+i * P.cellsOf e+c]? = eA[c]?:=by
      intro i c hi c8;obtain ⟨eA,l,q1,q2,q3,q4⟩:=tZ i hi;refine ⟨eA,l,q2,q3,q4,?_⟩;have q5:=(WX q1).2 c c8;obtain ⟨u,jv⟩:∃u,eA[c]? = some u:=⟨eA[c]'(by rw [q4];exact c8),ke _⟩
      rw [jv] at q5 ⊢;obtain ⟨_,dR,te',tT,r1,r2⟩:=WU q5;rw [oh,oh] at r1 r2;rw [hB] at r1;cases r1;exact r2
     have fE:∀i c y,cellOf ((List.range len).map R) i c=some y→i < m∧c < P.cellsOf e∧∃u,cur[o+i * P.cellsOf e+c]? = some u∧fK W L y u:=by
      intro i c y hy;obtain ⟨r,hr,qY⟩:=kL.1 hy;rw [bO] at hr;obtain ⟨i',ub,rfl⟩:=bG hr;have kP:i < len:=by
       have:=(cB.1 ub).1;simpa using this
      have hii:i'=i:=by simp [kP] at ub;exact ub.symm
      subst hii;obtain ⟨cs1,l1,t1,t2,t3,t4⟩:=tZ i' (by omega);have hR:R i'=l1:=by simp [R,t2]
      rw [hR] at qY;have c8:c < P.cellsOf e:=by rw [←t4,←t3.1];exact (cB.1 qY).1
      obtain ⟨Br,l2,s1,s2,s3,s4⟩:=ua i' c (by omega) c8;rw [t2] at s1;cases s1;obtain ⟨u,jv⟩:∃u,Br[c]? = some u:=⟨Br[c]'(by rw [s3];exact c8),ke _⟩
      exact ⟨by omega,c8,u,s4.trans jv,s2.2 c y u qY jv⟩
     have gF:((List.range len).map R).length=len:=by simp
     have:=@fK.pl W L (P.cellsOf e) ((List.range len).map R) B o m cur te fz (fun i c=>cur.getD (o+i * P.cellsOf e+c) undef) (by intro h;rw [h] at gF;simp at gF;omega) E3 (by rw [gF];exact hl) (hL B cur te fz hB) hB ?_ ?_ ?_
     ·rw [gF] at this;exact this
     ·intro r hr;obtain ⟨i,hi,rfl⟩:=iz.1 hr;have kP:=tE.1 hi;obtain ⟨cs1,l1,t1,t2,t3,t4⟩:=tZ i (by omega);have hR:R i=l1:=by simp [R,t2]
      rw [hR,t3.1,t4]
     ·intro i c y hy;obtain ⟨_,_,u,h1,_⟩:=fE i c y hy;rw [h1,iw,h1];rfl
     ·intro i c y hy;obtain ⟨_,_,u,h1,h2⟩:=fE i c y hy;rw [iw,h1];exact h2
  ·rename_i fs hu;simp only [bK,lH,eV] at hs;rw [DataW.trod_step] at h;unfold DataW.trodStep at h;simp only [hu] at h;split at h
   ·rename_i hl;obtain ⟨xs,h1,h2⟩:=bG h;subst h2;obtain ⟨l,k1,k2⟩:=X2 (fun t cs x=>ih fuel t cs x) cs fs.toList 0 _ hs.2 hs.1 hl h1;exact ⟨l,by simp [gH,hu,k1],by simpa using k2,hl⟩
   ·cases h
  ·cases hs
end
end
section
def tL (P:Program) (t:TypeId) (l:List D):V:=
 match P.underlying t with
 | some (.struct _)=>.agg (l.map .d)
 | _=>.one (.d (l.headD .dead))
def yO {H:Type} (P:Program) (n:Nat):List TypeId→List (DataW H)→Option (List V)
 | [],[]=>some []
 | t::ts,d::ds=>(gH P n t d).bind fun l=>(yO P n ts ds).map (tL P t l :: ·)
 | _,_=>none
def td (W:World):aw:=fun B=>match W.heap[B]? with | some (.cells ..)=>some .bh | _=>none
section
variable {H:Type} {enc:TypeId×Value→H} {P:Program} {W W':World} {nm:FuncId→Option Nat} {G:Nat→Option Obj} {Cl:bW}
theorem adP {B:Nat} {cur:Array Value} {e:TypeId} {fz:Nat×Nat} (h:W.heap[B]? = some (.cells cur e fz)):td W B=some .bh:=by simp [td,h]
theorem DK {B:Nat} {l:bQ} (h:td W B=some l):l = .bh∧∃cur e fz,W.heap[B]? = some (.cells cur e fz):=by
 unfold td at h;split at h
 ·rename_i c e fz hc;simp only [aj] at h;exact ⟨h.symm,c,e,fz,hc⟩
 ·cases h
theorem aeY {n base:Nat} {t:TypeId} {v:Value} {d:DataW H} {ps:List MemPlace} (cu:Value.okWide P W .any base t v) (hs:lV P n t=true) (ht:DataW.Trod enc P W 0 (fun _=>true) true t v d ps) :
  ∃l,gH P n t d=some l∧∀γ k,bD nm W (td W) γ k (tL P t l) v:=by
 obtain ⟨fuel,h⟩:=ht;obtain ⟨l,h1,h2,h3⟩:=ap' (L:=td W) (fun B cur e fz h=>adP h) n fuel t _ _ hs h;refine ⟨l,h1,fun γ k=>?_⟩;have single:P.cellsOf t=1→(∀cs,v≠.agg cs)→(∀fs,P.underlying t≠some (.struct fs))→bD nm W (td W) γ k (tL P t l) v:=by
  intro hc hna Fy;have hv:v.cells = #[v]:=by cases v<;>first | rfl | exact absurd rfl (hna _)
  have PI:tL P t l = .one (.d (l.headD .dead)):=by
   unfold tL;split
   ·rename_i hx;exact absurd hx (Fy _)
   ·rfl
  rw [PI];have hl:l.length=1:=by rw [h2.1,h3,hc]
  obtain ⟨y,rfl⟩:=Nb.1 hl;exact .one (.d (.plain (h2.2 0 y v rfl (by rw [hv];rfl))))
 cases n with
 | zero=>simp [lV] at hs
 | succ n=>
  simp only [lV] at hs;split at hs
  ·rename_i hu;exact single (by simpa using hs) (by rintro cs rfl;simp [Value.okWide,hu,Cell.okWide,Cell.ok] at cu) (by simp [hu])
  ·rename_i hu;exact single (by simpa using hs) (by rintro cs rfl;simp [Value.okWide,hu,Cell.okWide,Cell.ok] at cu) (by simp [hu])
  ·rename_i hu;exact single (by simpa using hs) (by rintro cs rfl;simp [Value.okWide,hu,Cell.okWide,Cell.ok] at cu) (by simp [hu])
  ·rename_i e hu;simp only [bK,eV] at hs;exact single hs.1.1 (by rintro cs rfl;simp [Value.okWide,hu,Cell.okWide,Cell.ok] at cu) (by simp [hu])
  ·rename_i fs hu;unfold Value.okWide at cu;rw [hu] at cu;obtain ⟨cs,rfl,_,_⟩:=cu;have PI:tL P t l = .agg (l.map .d):=by unfold tL;rw [hu]
   rw [PI];have hc:(Value.agg cs).cells.toList=cs.toList:=rfl;rw [hc] at h2;refine .agg (by rw [cf,h2.1,UB]) (fun j c u hj jv=>?_);rw [bO] at hj;obtain ⟨y,hy,rfl⟩:=bG hj;exact .d (.plain (h2.2 j y u hy (by simpa using jv)))
  ·cases hs
theorem NI {n base:Nat}:∀{ts:List TypeId} {vs:List Value} {ds:List (DataW H)} {ps:List MemPlace},DataW.TrodAll enc P W 0 (fun _=>true) true ts vs ds ps→(∀t∈ts,lV P n t=true)→(∀(j:Nat) t v,ts[j]? = some t→vs[j]? = some v→Value.okWide P W .any base t v)→
  ∃l,yO P n ts ds=some l∧l.length=vs.length∧∀(j:Nat) x v,l[j]? = some x→vs[j]? = some v→∀γ k,bD nm W (td W) γ k x v
 | [],vs,ds,ps,h,_,_=>by
  cases vs with
  | nil=>
   cases ds with
   | nil=>exact ⟨[],rfl,rfl,fun j x v h=>by simp at h⟩
   | cons=>simp [DataW.TrodAll] at h
  | cons=>simp [DataW.TrodAll] at h
 | t::ts,vs,ds,ps,h,hs,hv=>by
  cases vs with
  | nil=>simp [DataW.TrodAll] at h
  | cons v vs=>
   cases ds with
   | nil=>simp [DataW.TrodAll] at h
   | cons d ds=>
    obtain ⟨p,q,h1,h2,rfl⟩:=h;obtain ⟨l,k1,k2⟩:=aeY (nm:=nm) (hv 0 t v rfl rfl) (hs t (jT ..)) h1;obtain ⟨ls,k3,k4,k5⟩:=NI h2 (fun t ht=>hs t (kE _ ht)) (fun j t v hj gJ=>hv (j+1) t v (by simpa using hj) (by simpa using gJ));refine ⟨tL P t l::ls,by simp [yO,k1,k3],by simp [k4],?_⟩;intro j x u hj hu;cases j with
    | zero=>simp at hj hu;subst hj;subst hu;exact k2
    | succ j=>exact k5 j x u (by simpa using hj) (by simpa using hu)
theorem ap2 {l:List V} {args:Array Value} (hl:l.length=args.size) (h:∀(j:Nat) x v,l[j]? = some x→args[j]? = some v→∀γ k,bD nm W (td W) γ k x v) :
  Rel nm l.length (ga 0 l++dk 0 []) ⟨args,[]⟩ W (td W):=by
 have hE:∀k,(∀j,k≠.s j)→(ga 0 l++dk 0 []:St).E k=V.dead:=by
  intro k hk;have:(ga 0 l++dk 0 []:St).E k=(dk 0 []:St).E k:=by
   unfold St.E;rw [pd];cases k<;>first | rfl | exact absurd rfl (hk _)
  rw [this,pg];cases k with
  | r x=>cases x<;>rfl
  | b x c=>cases x<;>rfl
  | _=>rfl
 refine ⟨hl.symm,rfl,?_,?_,?_,?_,?_,?_,?_,?_⟩
 ·intro i;have hs:(ga 0 l++dk 0 []:St).E (.s i)=if i < l.length then l.getD i V.dead else V.dead:=by
   unfold St.E;rw [pd];simp only [yH,lk,dc,D0];split
   ·rfl
   ·rw [pf];rfl
  rw [hs];split
  ·rename_i hi;have vu:i < args.size:=by omega
   have:=h i (l.getD i V.dead) args[i] (getD_some hi) (by simp [vu]) (ga 0 l++dk 0 []:St).γ (.s i);simpa [Array.getD,vu] using this
  ·exact .one .dead
 ·intro r c x hx gj;rw [hE _ (by intro j h;cases h)] at hx;simp only [V.dead,V.one.injEq] at hx;exact absurd hx.symm gj
 ·intro r c;rw [hE _ (by intro j h;cases h)];exact ⟨_,rfl⟩
 ·intro r c _;rw [hE _ (by intro j h;cases h)];rfl
 ·intro r _ hr;rw [hE _ (by intro j h;cases h)] at hr;simp [V.dead,cm] at hr
 ·intro B l hB;obtain ⟨_,_,_,h⟩:=(DK hB).2;exact (lG.1 h).1
 ·intro B B' pl o o' hB;have:=(DK hB).1;cases this
 ·intro B B' r o o' hB;have:=(DK hB).1;cases this
structure Left (W W':World):Prop where
 os:W'.os=W.os
 output:W'.output=W.output
 heap:∀B,B < W.heap.size→W'.heap[B]? = W.heap[B]?
theorem anl (hO:Ea P nm G Cl) (EV:∀B c,G B=some c→W.heap[B]? = some c∧∃cur e fz,c = .cells cur e fz) {cH:FuncId} {f0:Nat} {g:Func} {c:Code} (ju:nm cH=some f0) (hf:P.funcs[cH]? = some g) (mg:(g.name == "runtime.NumGoroutine")=false) (hb:g.body=some c)
  {n base:Nat} {ts:List TypeId} {args:Array Value} {ds:List (DataW H)} {ps:List MemPlace} (hA:DataW.TrodAll enc P W 0 (fun _=>true) true ts args.toList ds ps)
  (hs:∀t∈ts,lV P n t=true) (cu:∀(j:Nat) t v,ts[j]? = some t→args[j]? = some v→Value.okWide P W .any base t v)
  {b:Bool} (heq:∀l,yO P n ts ds=some l→∃out,Cl f0 l []=some (.one (.d (.bool b)),out)) :
  Calls P cH args W fun e W'=>e = .returned (.bool b)∧Left W W':=by
 obtain ⟨l,h1,h2,h3⟩:=NI (nm:=nm) hA hs (fun j t v hj hv=>cu j t v hj (by simpa using hv));obtain ⟨out,h4⟩:=heq l h1;have R:=ap2 (W:=W) (nm:=nm) (l:=l) (args:=args) (by rw [h2];simp) (fun j x v hj hv=>h3 j x v hj (by simpa using hv));have hF:=hO h4 ju R (fun B q o hB=>by have:=(DK hB).1;cases this) (fun B c hB=>by obtain ⟨h1,cur,e,fz,rfl⟩:=EV B c hB;exact ⟨adP h1,h1⟩) (fun B i o hB=>by have:=(DK hB).1;cases this);have Fw:¬ g.name = "runtime.NumGoroutine" := by simpa using mg
 have iW:(callFunc cH args).run P W = .ok (.enter cH args) W:=by simp [callFunc,hf,Fw,hb]
 unfold jV at hF;rw [iW] at hF;refine Calls.mono hF ?_;rintro e W' ⟨v,rfl,L',hm,_,hv⟩;have Cp:v = .bool b:=hv.cQ.r7;subst Cp;refine ⟨rfl,hm.os,hm.output,fun B hB=>?_⟩;cases hL:td W B with
 | none=>exact (hm.none B hB hL).2
 | some l=>
  obtain ⟨rfl,_⟩:=DK hL;exact (hm.bh B hL).2
theorem adT {n:Nat} {rC:Nat→Bool} (hold:∀B,B < W.heap.size→W'.heap[B]? = W.heap[B]?) (uh:∀b,b < W.heap.size→rC b=true):∀{ts:List TypeId} {vs:List Value} {ds:List (DataW H)} {ps:List MemPlace},
  (∀t∈ts,lV P n t=true)→DataW.TrodAll enc P W 0 (fun _=>true) true ts vs ds ps→DataW.TrodAll enc P W' 0 rC true ts vs ds ps
 | [],vs,ds,ps,_,h=>by
  cases vs<;>cases ds<;>simp_all [DataW.TrodAll]
 | t::ts,vs,ds,ps,hs,h=>by
  cases vs with
  | nil=>simp [DataW.TrodAll] at h
  | cons v vs=>
   cases ds with
   | nil=>simp [DataW.TrodAll] at h
   | cons d ds=>
    obtain ⟨p,q,⟨fuel,h1⟩,h2,rfl⟩:=h;obtain ⟨m,h3⟩:=aqa hold uh n t fuel _ _ (hs t (jT ..)) h1;exact ⟨p,q,⟨m,h3⟩,adT hold uh (fun t ht=>hs t (kE _ ht)) h2,rfl⟩
theorem ano {f:Func} {s:ChangeSpec} {apart fresh handsOn again:Bool} {args:Array Value} {ds gs:List (DataW H)} {before:List MemPlace} {n:Nat} {b:Bool} {tb:TypeId}
  (hW:DataW.Whole enc P f.params.toList s.vars apart W args.toList ds gs before) (QP:s.vars=[]) (hs:∀t∈f.params.toList,lV P n t=true)
  (hr:f.resultTypes = #[tb]) (Zw:P.underlying tb=some .bool) (QF:(s.fn H (ds++gs)).results=[.lit (.bool b)]) (sw:(s.fn H (ds++gs)).args=ds) (hgv:(s.fn H (ds++gs)).vars=[])
  (hl:Left W W'):s.post enc P f apart fresh handsOn again W args (.bool b) W':=by
 have Je:=hW;obtain ⟨p,q,hA,hV,rfl,hz,hn⟩:=hW;rw [QP] at hV;have hq:q=[]∧gs=[]:=by
  cases gs with
  | nil=>exact ⟨by simpa [DataW.TrodVars] using hV,rfl⟩
  | cons=>simp [DataW.TrodVars] at hV
 obtain ⟨rfl,rfl⟩:=hq;have af:∀p'∈p++[],p'.block < W.heap.size:=fun p' hp=>Je.lt p' hp
 have ZT:=fun (rC:Nat→Bool) (uh:∀b,b < W.heap.size→rC b=true)=>adT (rC:=rC) hl.heap uh hs hA
 have acy:∀(bb:Nat) (sp:Nat→Bool) (hd:Bool),DataW.TrodAll enc P W' bb sp hd f.resultTypes.toList ((Value.bool b).resultList f.resultTypes.size) [.lit (.bool b)] []:=by
  intro bb sp hd;rw [hr];exact ⟨[],[],⟨1,by simp [DataW.trod,Value.cells,Zw]⟩,rfl,rfl⟩
 have iH:∀sp,DataW.TrodVars enc P W' sp s.vars (s.fn H (ds++[])).vars []:=by
  intro sp;rw [QP,hgv];rfl
 refine ⟨ds,[],p++[],[],p,[],Je,?_,?_,iH _,?_,fun _=>⟨?_,?_⟩⟩
 ·rw [QF];exact acy _ _ _
 ·rw [sw];exact ZT _ (fun b hb=>by simpa using hb)
 ·refine ⟨hl.os,hl.output,fun i hi=>?_⟩;rw [hl.heap i hi];split
  ·rename_i h1 h2;rw [h1] at h2;cases h2;exact ⟨rfl,rfl,rfl,fun _ _=>rfl⟩
  ·rename_i h1 h2;rw [h1] at h2;cases h2;exact .inr ⟨rfl,rfl⟩
  ·rfl
 ·intro j t r h1 h2;rw [hr] at h1 h2;cases j with
  | zero=>
   simp [Value.resultList] at h1 h2;subst h1;subst h2;simp [Value.okWide,Zw,Cell.okWide,Cell.ok]
  | succ j=>simp [Value.resultList] at h2
 ·have ai3:=Go.ChangeShapes.trodAll_append (ZT (fun _=>true) (fun _ _=>rfl)) (acy 0 (fun _=>true) true);refine ⟨_,[],_,⟨_,[],ai3,(by rw [QP];rfl),rfl,?_,?_⟩,?_⟩
  ·intro b' off hp;have Cb:MemPlace.cell b' off∈p++[]:=by simpa using hp
   have cX:=hz b' off Cb;have hb:=af _ Cb;have vo:b' < W.heap.size:=hb;unfold World.frozen? at cX ⊢;simp only at cX ⊢;rw [hl.heap b' vo];exact cX
  ·intro ha;have:=hn ha;simpa using this
  ·intro p' hp _;simpa using hp
end
end
section
inductive TS where
 | int (k:IntKind)
 | bool
 | str
 | sl (sz:Nat) (l:List TS)
mutual
def xU:TS→D→Prop
 | .int k,.int k' n=>k'=k∧(Lit.int k n).wf=true
 | .bool,.bool _=>True
 | .str,.str _=>True
 | .sl sz ts,.sl (.im b) cw rows=>cw=sz∧(b=true→rows=[])∧∀r∈rows,lz ts r
 | _,_=>False
def lz:List TS→List D→Prop
 | [],[]=>True
 | t::ts,x::r=>xU t x∧lz ts r
 | _,_=>False
end
theorem abm:∀{ts us:List TS} {r q:List D},lz ts r→lz us q→lz (ts++us) (r++q)
 | [],us,[],q,_,h=>h
 | t::ts,us,x::r,q,h,h'=>by
  simp only [lz,qG] at h ⊢;exact ⟨h.1,abm h.2 h'⟩
 | [],_,_::_,_,h,_=>absurd h (by simp [lz])
 | _::_,_,[],_,h,_=>absurd h (by simp [lz])
def Ho (f:TypeId→Option (List TS)):List Field→Option (List TS)
 | []=>some []
 | x::t=>(f x.type).bind fun a=>(Ho f t).map (a ++ ·)
def AG (P:Program):Nat→TypeId→Option (List TS)
 | 0,_=>none
 | n+1,t=>match P.underlying t with
  | some .bool=>some [.bool]
  | some (.int k)=>some [.int k]
  | some .string=>some [.str]
  | some (.slice e)=>(AG P n e).map fun l=>[.sl (P.cellsOf e) l]
  | some (.struct fs)=>Ho (AG P n) fs.toList
  | _=>none
section
variable {H:Type} {enc:TypeId×Value→H} {P:Program} {W:World}
theorem abt {n fuel:Nat} {cs:List Value} (ih:∀(t:TypeId) (cs:List Value) (x:DataW H×List MemPlace) l ts,DataW.trod enc P W 0 (fun _=>true) true fuel t cs=some x→gH P n t x.1=some l→AG P n t=some ts→lz ts l) :
  ∀(fl:List Field) {xs:List (DataW H×List MemPlace)} {l:List D} {ts:List TS},(fl.mapM fun f=>DataW.trod enc P W 0 (fun _=>true) true fuel f.type ((cs.drop f.offset).take (P.cellsOf f.type)))=some xs→
   w6 P n fl (xs.map (·.1))=some l→Ho (AG P n) fl=some ts→lz ts l
 | [],xs,l,ts,hx,hl,ht=>by
  have:xs=[]:=by simpa using hx.symm
  subst this;simp [w6] at hl;simp [Ho] at ht;subst hl;subst ht;trivial
 | f::fl,xs,l,ts,hx,hl,ht=>by
  rw [mI] at hx;obtain ⟨y,h1,h2⟩:=bind_some hx;obtain ⟨t,h3,h4⟩:=bind_some h2;cases h4;simp only [fS,w6] at hl;obtain ⟨l1,k1,k2⟩:=bind_some hl;obtain ⟨l2,k3,rfl⟩:=bG k2;simp only [Ho] at ht;obtain ⟨t1,j1,j2⟩:=bind_some ht;obtain ⟨t2,j3,rfl⟩:=bG j2;exact abm (ih _ _ _ _ _ h1 k1 j1) (abt ih fl h3 k3 j3)
theorem mapM_mem {α β:Type} {f:α→Option β}:∀{l:List α} {r:List β},l.mapM f=some r→∀y∈r,∃x∈l,f x=some y
 | [],r,h,y,hy=>by
  have:r=[]:=by simpa using h.symm
  subst this;cases hy
 | x::t,r,h,y,hy=>by
  rw [mI] at h;obtain ⟨a,h1,h2⟩:=bind_some h;obtain ⟨b,h3,h4⟩:=bind_some h2;cases h4;rcases gV.1 hy with rfl | hy
  ·exact ⟨x,jT ..,h1⟩
  ·obtain ⟨z,hz,hf⟩:=mapM_mem h3 y hy;exact ⟨z,kE _ hz,hf⟩
theorem an9:∀(n fuel:Nat) (t:TypeId) (cs:List Value) (x:DataW H×List MemPlace) (l:List D) (ts:List TS),
  DataW.trod enc P W 0 (fun _=>true) true fuel t cs=some x→gH P n t x.1=some l→AG P n t=some ts→lz ts l:=by
 intro n;induction n with
 | zero=>intro fuel t cs x l ts _ h;simp [gH] at h
 | succ n ih=>
  intro fuel t cs x l ts h hd ht;cases fuel with
  | zero=>simp [DataW.trod] at h
  | succ fuel=>
  simp only [AG] at ht;split at ht
  ·rename_i hu;cases ht;rw [DataW.trod_step] at h;unfold DataW.trodStep at h;rw [hu] at h;have:∃b,cs=[.bool b]∧x=(.lit (.bool b),[]):=by
    rcases cs with _ | ⟨c,_ | ⟨c2,t⟩⟩
    ·simp at h
    ·cases c<;>simp at h;exact ⟨_,rfl,h.symm⟩
    ·simp at h
   obtain ⟨b,rfl,rfl⟩:=this;simp [gH,hu] at hd;subst hd;exact ⟨trivial,trivial⟩
  ·rename_i k hu;cases ht;rw [DataW.trod_step] at h;unfold DataW.trodStep at h;rw [hu] at h;have:∃z,cs=[.int k z]∧(Lit.int k z).wf=true∧x=(.lit (.int k z),[]):=by
    rcases cs with _ | ⟨c,_ | ⟨c2,t⟩⟩
    ·simp at h
    ·cases c<;>simp at h;obtain ⟨⟨rfl,hw⟩,h⟩:=h;exact ⟨_,rfl,hw,h.symm⟩
    ·simp at h
   obtain ⟨z,rfl,hw,rfl⟩:=this;simp [gH,hu] at hd;subst hd;exact ⟨⟨rfl,hw⟩,trivial⟩
  ·rename_i hu;cases ht;rw [DataW.trod_step] at h;unfold DataW.trodStep at h;rw [hu] at h;have:∃z:ByteArray,cs=[.string z]∧x=(.lit (.string z.data.toList),[]):=by
    rcases cs with _ | ⟨c,_ | ⟨c2,t⟩⟩
    ·simp at h
    ·cases c<;>simp at h;exact ⟨_,rfl,h.2.symm⟩
    ·simp at h
   obtain ⟨z,rfl,rfl⟩:=this;simp [gH,hu] at hd;subst hd;exact ⟨trivial,trivial⟩
  ·rename_i e hu;obtain ⟨te,he,rfl⟩:=bG ht;rcases Go.Deep.open_slice hu h with ⟨rfl,rfl⟩ | ⟨a,len,cap,m,k,Dd,Pl,rfl,hb,hl,hm,Ft,rfl,hx⟩
   ·simp [gH,hu] at hd;subst hd;exact ⟨⟨rfl,fun _=>rfl,fun r hr=>by cases hr⟩,trivial⟩
   ·have Fs:m=cap:=by simpa using Ft
    subst Fs;unfold gH at hd;rw [hu] at hd;simp only at hd;obtain ⟨rows,h1,rfl⟩:=bG hd;refine ⟨⟨rfl,fun hb=>(by cases hb),fun r hr=>?_⟩,trivial⟩;obtain ⟨d,dz,hf⟩:=mapM_mem h1 r hr;obtain ⟨i,hi,rfl⟩:=iz.1 dz;have kP:=tE.1 hi;obtain ⟨eA,_,h2⟩:=hx i (by omega);exact ih k e eA _ _ _ h2 hf he
  ·rename_i fs hu;rw [DataW.trod_step] at h;unfold DataW.trodStep at h;rw [hu] at h;simp only at h;split at h
   ·obtain ⟨xs,h1,rfl⟩:=bG h;unfold gH at hd;rw [hu] at hd;simp only at hd;exact abt (fun t cs x l ts h1 h2 h3=>ih fuel t cs x l ts h1 h2 h3) fs.toList h1 hd ht
   ·cases h
  ·cases ht
def LW:List (List TS)→List (List D)→Prop
 | [],[]=>True
 | ts::t,r::l=>lz ts r∧LW t l
 | _,_=>False
def Eh (P:Program):List TypeId→List (List D)→List V
 | t::ts,r::rs=>tL P t r::Eh P ts rs
 | _,_=>[]
def DN (P:Program) (n:Nat):List TypeId→Option (List (List TS))
 | []=>some []
 | t::ts=>(AG P n t).bind fun a=>(DN P n ts).map (a :: ·)
def yZ {H:Type} (P:Program) (n:Nat):List TypeId→List (DataW H)→Option (List (List D))
 | [],[]=>some []
 | t::ts,d::ds=>(gH P n t d).bind fun l=>(yZ P n ts ds).map (l :: ·)
 | _,_=>none
theorem abr {n:Nat}:∀{ts:List TypeId} {vs:List Value} {ds:List (DataW H)} {ps:List MemPlace} {l:List V} {tt:List (List TS)},DataW.TrodAll enc P W 0 (fun _=>true) true ts vs ds ps→yO P n ts ds=some l→DN P n ts=some tt→
  ∃rs,yZ P n ts ds=some rs∧LW tt rs∧l=Eh P ts rs
 | [],vs,ds,ps,l,tt,h,hl,ht=>by
  cases vs<;>cases ds<;>simp_all [DataW.TrodAll,yO,DN];subst hl;subst ht;exact ⟨[],rfl,trivial,rfl⟩
 | t::ts,vs,ds,ps,l,tt,h,hl,ht=>by
  cases vs with
  | nil=>simp [DataW.TrodAll] at h
  | cons v vs=>
   cases ds with
   | nil=>simp [DataW.TrodAll] at h
   | cons d ds=>
    obtain ⟨p,q,⟨fuel,h1⟩,h2,rfl⟩:=h;simp only [yO] at hl;obtain ⟨r,k1,k2⟩:=bind_some hl;obtain ⟨l2,k3,rfl⟩:=bG k2;simp only [DN] at ht;obtain ⟨t1,j1,j2⟩:=bind_some ht;obtain ⟨t2,j3,rfl⟩:=bG j2;have ho:=an9 n fuel t _ _ _ _ h1 k1 j1;obtain ⟨rs,g1,g2,rfl⟩:=abr h2 k3 j3;exact ⟨r::rs,by simp [yZ,k1,g1],⟨ho,g2⟩,rfl⟩
theorem anm {nm:FuncId→Option Nat} {G:Nat→Option Obj} {Cl:Nat→bW} (hO:∀N,Ea P nm G (Cl N)) (EV:∀B c,G B=some c→W.heap[B]? = some c∧∃cur e fz,c = .cells cur e fz) {cH:FuncId} {f0:Nat} {g:Func} {c:Code} (ju:nm cH=some f0) (hf:P.funcs[cH]? = some g) (mg:(g.name == "runtime.NumGoroutine")=false) (hb:g.body=some c)
  {n base:Nat} {ts:List TypeId} {tt:List (List TS)} {args:Array Value} {ds:List (DataW H)} {ps:List MemPlace} (hA:DataW.TrodAll enc P W 0 (fun _=>true) true ts args.toList ds ps)
  (hs:∀t∈ts,lV P n t=true) (FG:DN P n ts=some tt) (cu:∀(j:Nat) t v,ts[j]? = some t→args[j]? = some v→Value.okWide P W .any base t v)
  {b:Bool} (heq:∀rs,yZ P n ts ds=some rs→LW tt rs→∃N out,Cl N f0 (Eh P ts rs) []=some (.one (.d (.bool b)),out)) :
  Calls P cH args W fun e W'=>e = .returned (.bool b)∧Left W W':=by
 obtain ⟨l,h1,_⟩:=NI (nm:=nm) hA hs (fun j t v hj hv=>cu j t v hj (by simpa using hv));obtain ⟨rs,h2,h3,rfl⟩:=abr hA h1 FG;obtain ⟨N,out,h4⟩:=heq rs h2 h3;refine anl (hO N) EV ju hf mg hb hA hs cu (fun l' mc=>?_);rw [h1] at mc;cases mc;exact ⟨out,h4⟩
end
end
end Go.ax
