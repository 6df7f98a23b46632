/- A part of the proof. -/
import Derived.Test.YtfmpdgeiodnnfaaGreatDoorB10
import Derived.Test.YtfmpdgeiodnnfaaGreatDoorB4
import Derived.Test.YtfmpdgeiodnnfaaGreatDoorB1
import Derived.Test.YtfmpdgeiodnnfaaGreatDoorB9
import Derived.Test.YtfmpdgeiodnnfaaGreatDoorB3
import Derived.ChangeSame
import Derived.RowKit
import Derived.Deep.Slices
set_option maxRecDepth 100000
set_option maxHeartbeats 2000000
set_option linter.all false
namespace Go.Proofs.YtfmpdgeiodnnfaaGreatDoor
section
open Go Go.ax PT
open QQ (ik ma bF nV)
section
variable {m:Nat} {Q:V→List (List C)→Prop} {p:PC} {W D:Nat→Nat}
theorem ae' {n:Nat} {s:PS} (g:BG m p W D n s) (hk:s.kd=3) {d:Nat} (hd:d+2 * inc s≤3+2 * D n) {t:List UInt8} (ht:t.length+4000000 * W n≤100000000000000) {K:j8.T→OR} {x9:au bl} (h:∀ls,ev d d d (W n) ls→Wp (K ((),bB (t++eW ls),())) Q)
  {τ:List UInt8} (hτ:NL τ) (hl:τ.length≤330):Wp (ie (T m) (d:Int) ([105,102,32]++τ++[32,123]) (bB t) fun v10=>rA cf 2 1 (s.ws.map cW) 0 fun v12=>c93 (T m) p.nm p.pb (p.pm.map eK) p.tb (p.tm.map bA) p.sb (p.ss.map cT) v12.1 (ak ((d:Int)+1)) v10.2.1 fun aP=>ie (T m) (d:Int) [125,32,101,108,115,101,32,123] aP.2.1 fun bR=>rA cf 2 1 (s.ws.map cW) 1 fun cB=>c93 (T m) p.nm p.pb (p.pm.map eK) p.tb (p.tm.map bA) p.sb (p.ss.map cT) cB.1 (ak ((d:Int)+1)) bR.2.1 fun dS=>ie (T m) (d:Int) [125] dS.2.1 fun eH=>lP (T m) m x9 m (d:Int) eH.2.1 (tP p) (tS s)) (J j8 K Q):=by
 have hD:=g.d;have hm:=g.hm;have Y1:inc s=1:=by unfold inc;rw [aJ (.inl hk)]
 obtain ⟨w0,wC,uf⟩:∃w0 w1,s.ws=[w0,w1]:=by
  have h2:=g.f.i2 hk;match s.ws,h2 with
  | [a,b],_=>exact ⟨a,b,rfl⟩
 have q9:br s=[w0.nx,wC.nx]:=by unfold br;rw [aB (by rw [hk];decide),uf];rfl
 obtain ⟨k0,s0,nK,oJ,bk0,hD0⟩:=g.e w0.nx (by rw [q9];simp);obtain ⟨k1,s1,tZ,kx,bk1,hD1⟩:=g.e wC.nx (by rw [q9];simp);have hw:=g.w;have ho:lA s=3:=by unfold lA;rw [aJ hk]
 rw [q9,ho,nK,tZ] at hw;simp only [gl,AV,yC,U0,jC,UK] at hw;have wd:=wI d;have hA:TL 105 123 ([105,102,32]++τ++[32,123]):=tl (eI.2 ⟨eI.2 ⟨ch,hτ⟩,ch⟩) rfl rfl;have BP:([105,102,32]++τ++[32,123]).length=τ.length+5:=by simp
 rw [wd,uf];refine uG (m:=m) (by omega) (by omega) (by omega) ?_;refine aC (yc (r:=cW w0) (v:=(w0.nx,())) rfl (by simp [cW]) rfl rfl) ?_;dsimp only;rw [nK];refine bk0 (d+1) _ _ _ (by omega) (by rw [eu,uk];dsimp only;omega) fun l0 h0=>?_
 have z0:=h0.sz;refine uG (m:=m) (by omega) (by omega) (by simp only [eu,uk,gk,jB] at BP ⊢;omega) ?_;refine aC (yc (r:=cW wC) (v:=(wC.nx,())) rfl (by simp [cW]) rfl rfl) ?_;dsimp only;rw [tZ];refine bk1 (d+1) _ _ _ (by omega) (by simp only [eu,uk,gk,jB] at BP ⊢;omega) fun l1 h1=>?_
 have z1:=h1.sz;refine uG (m:=m) (by omega) (by omega) (by simp only [eu,uk,gk,jB] at BP ⊢;omega) ?_;have sg:=((((ev.one hA (by decide) (bT d) (by omega) (by omega) (Hg hA (by decide))).app (h0.deep (by omega))).app (ev.one ap1 (by decide) (bT d) (by omega) (by simp) apP)).app (h1.deep (by omega))).app (ev.one Hk (by decide) (bT d) (by omega) (by simp) Hf);have:=NW g hd ht (x9:=x9) h sg (by rw [hk,aB (by decide)];omega);simp only [sT,vJ,show eW []=[] from rfl,mJ,←ek] at this;simp only [←ek];exact this
theorem ae9 {n:Nat} {s:PS} (g:BG m p W D n s):Nr (m+1) p W D n s:=by
 intro d t K Q hd ht h;have hm:=g.hm;have hT:=g.ok.t2;have oH:=g.ok.s2 s (ft g.hs);have fs:=g.f;have eq:∀{z:Int},(s.kd==z)=true→s.kd=z:=fun h=>by simpa using h
 refine bH af' (aM (enc:=cT) (f:=tS) (fun a=>⟨by simp [cT],rfl⟩) rfl g.hs ?_);have one:=fun {τ a b} => afa g hd ht (x9:=bB t) (Q:=Q) (τ:=τ) (a:=a) (b:=b) h
 refine aj (fun e=>?_) fun n0=>aj (fun e=>?_) fun n10=>aj (fun e=>?_) fun n1=>aj (fun e=>?_) fun n2=>aj (fun e=>?_) fun n3=>aj (fun e=>?_) fun n4=>aj (fun e=>?_) fun n5=>aj (fun e=>?_) fun n6=>aj (fun e=>?_) fun n7=>aj (fun e=>?_) fun n8=>aj (fun e=>?_) fun n9=>?_
 ·have e:=eq e;exact one (by omega) (τ:=[115,116,111,112]) ⟨ch,rfl,rfl⟩ (by decide) (by decide) (by decide)
 ·have e:=eq e;exact one (by omega) (τ:=[102,97,105,108]) ⟨ch,rfl,rfl⟩ (by decide) (by decide) (by decide)
 ·have e:=eq e;have hn:=mB (fs.n1 (by omega));have:=hn.2;refine cr (by dsimp only [tS];omega) (cr (by simp [tS];omega) (DM (m:=m) (by omega) hT fun τ h1 h2=>cr (by simp [tS];omega) (cr (by simp [tS];omega) ?_)));exact one (by omega) (tl (eI.2 ⟨eI.2 ⟨eI.2 ⟨eI.2 ⟨ch,hn.1⟩,ch⟩,h1⟩,ch⟩) (a:=108) (b:=59) rfl rfl) (by decide) (by decide) (by simp [tS];omega)
 ·have e:=eq e;refine DM (m:=m) (by omega) hT fun τ h1 h2=>cr (by dsimp only [tS];omega) (cr (by simp [tS];omega) ?_)
  exact one (by omega) (tl (eI.2 ⟨eI.2 ⟨ch,h1⟩,ch⟩) (a:=112) (b:=59) rfl rfl) (by decide) (by decide) (by simp;omega)
 ·have e:=eq e;refine DM (m:=m) (by omega) hT fun τ h1 h2=>cr (by dsimp only [tS];omega) (cr (by simp [tS];omega) ?_)
  exact ae' g e hd ht h h1 h2
 ·have e:=eq e;have hn:=mB (fs.n1 (by omega));have hp:=mB (fs.n2 (by omega));have hb:=mB (fs.n3 (by omega));have:=hn.2;have:=hp.2;have:=hb.2;refine cr (by dsimp only [tS];omega) (cr (by simp [tS];omega) (cr (by simp [tS];omega) (cr (by simp [tS];omega) (cr (by simp [tS];omega) (cr (by simp [tS];omega) (DM (m:=m) (by omega) hT fun τ h1 h2=>cr (by simp [tS];omega) (cr (by simp [tS];omega) ?_)))))));exact one (by omega) (tl (by simp only [eI];exact ⟨⟨⟨⟨⟨⟨⟨⟨ch,hn.1⟩,ch⟩,hp.1⟩,ch⟩,hb.1⟩,ch⟩,h1⟩,ch⟩) (a:=115) (b:=59) rfl rfl) (by decide) (by decide) (by simp [tS];omega)
 ·have e:=eq e;have hn:=mB (fs.n1 (by omega));have hp:=mB (fs.n2 (by omega));have:=hn.2;have:=hp.2;have hD:=g.d;have Y1:inc s=1:=by unfold inc;rw [aJ (.inr e)]
  have hw:=g.w;have ho:lA s=2+2 * s.ws.length:=by unfold lA;rw [aB (by omega),aJ e]
  have hA:TL 104 123 ([104,101,97,114,32]++s.nm++[32,102,114,111,109,32]++s.pr++[32,123]):=tl (by simp only [eI];exact ⟨⟨⟨⟨ch,hn.1⟩,ch⟩,hp.1⟩,ch⟩) rfl rfl;have BP:([104,101,97,114,32]++s.nm++[32,102,114,111,109,32]++s.pr++[32,123]).length≤50:=by simp;omega
  refine cr (by dsimp only [tS];omega) (cr (by simp [tS];omega) (cr (by simp [tS];omega) (cr (by simp [tS];omega) (uG (m:=m) (by omega) (by omega) ?_ ?_))))
  ·show t.length+([104,101,97,114,32]++s.nm++[32,102,114,111,109,32]++s.pr++[32,123]).length+2 * d+1≤_;omega
  ·refine VW g e hd m 0 _ (by have:=oH.2.2.2;omega) (by omega) ?_ fun ls lN=>?_
   ·rw [eu,uk,AT];show t.length+(2 * d+([104,101,97,114,32]++s.nm++[32,102,114,111,109,32]++s.pr++[32,123]).length+1)+_≤_;omega
   ·have:=NW g hd ht (x9:=bB t) h ((ev.one hA (by decide) (bT d) (by omega) (by omega) (Hg hA (by decide))).app lN) (by rw [e,aB (by decide),AT];omega);rw [sT,vJ,show eW []=[] from rfl,mJ,←ek] at this;exact this
 ·have e:=eq e;have hn:=mB (fs.n4 (by omega));have:=hn.2;refine cr (by dsimp only [tS];omega) (Ue (m:=m) (by omega) hT oH.1 fun τ h1 h2 h3=>cr (by simp [tS];omega) ?_);exact one (by omega) (tl (eI.2 ⟨eI.2 ⟨ch,hn.1⟩,h1⟩) (a:=99) (b:=41) rfl h3) (by decide) (by decide) (by simp [tS];omega)
 ·have e:=eq e;have hn:=mB (fs.n4 (by omega));have:=hn.2;refine cr (by dsimp only [tS];omega) (Ue (m:=m) (by omega) hT oH.1 fun τ h1 h2 h3=>cr (by simp [tS];omega) (cr (by simp [tS];omega) ?_));exact one (by omega) (tl (eI.2 ⟨eI.2 ⟨eI.2 ⟨ch,hn.1⟩,h1⟩,ch⟩) (a:=115) (b:=59) rfl rfl) (by decide) (by decide) (by simp [tS];omega)
 ·have e:=eq e;have hc:Sn s.cs:=⟨oH.2.1,fun c hc=>⟨oH.2.2.1 c hc,mB (fs.n5 e c hc).1,mB (fs.n5 e c hc).2⟩⟩
  refine aqK (m:=m) (by omega) hT (mB (fs.n1 (by omega))) (mB (fs.n3 (by omega))) (mB (fs.n2 (by omega))) hc fun τ h1 h2=>?_
  exact one (by omega) h1 (by decide) (by decide) (jd h2 (by decide))
 ·have e:=eq e;have hn:=mB (fs.n1 (by omega));have:=hn.2;refine cr (by dsimp only [tS];omega) (cr (by simp [tS];omega) ?_);exact one (by omega) (tl (eI.2 ⟨eI.2 ⟨ch,hn.1⟩,ch⟩) (a:=100) (b:=59) rfl rfl) (by decide) (by decide) (by simp [tS];omega)
 ·have ne:∀{z:Int},(s.kd==z)=false→s.kd≠z:=fun h=>by simpa using h
  have:=ne n0;have:=ne n1;have:=ne n2;have:=ne n3;have:=ne n4;have:=ne n5;have:=ne n6;have:=ne n7;have:=ne n8;have:=ne n9;have:=ne n10;have:=fs.k0;omega
theorem VT (hp:gK p) (hS:SF p.ss) (me:p.ss.length≤80) (hW:∀(n:Nat) s,p.ss[n]? = some s→W n=lA s+((br s).map fun z=>W z.toNat).sum)
  (hD:∀(i:Nat) s,p.ss[i]? = some s→D i≤24∧∀k:Nat,(k:Int)∈br s→∀s',p.ss[k]? = some s'→D k=D i+inc s'):∀(j n:Nat) (s:PS),p.ss[n]? = some s→p.ss.length - n≤j→∀m,1000+j≤m→Nr m p W D n s
 | 0,n,s,hs,hj,m,hm=>by
  have:=(cw.1 hs).1;omega
 | j+1,n,s,hs,hj,m,hm=>by
  obtain ⟨m,rfl⟩:=bm 1 m;refine ae9 ⟨by omega,hp,hs,hS.f s (ft hs),fun t ht=>?_,hW n s hs,(hD n s hs).1⟩;obtain ⟨k,rfl,h1,h2⟩:=hS.e n s t hs ht;have hg:p.ss[k]? = some p.ss[k]:=gE h2;exact ⟨k,_,rfl,hg,VT hp hS me hW hD j k _ hg (by omega) m (by omega),(hD n s hs).2 k ht _ hg⟩
end
end
section
open Go Go.ax PT
def Wf (ss:List PS):Nat→Nat→Nat
 | 0,_=>0
 | f+1,n=>match ss[n]? with
  | none=>0
  | some s=>lA s+((br s).map fun z=>Wf ss f z.toNat).sum
theorem aq7 {ss:List PS} (h:SF ss):∀f f' n,ss.length - n≤f→ss.length - n≤f'→Wf ss f n=Wf ss f' n:=by
 intro f;induction f with
 | zero=>
  intro f' n h1 h2;cases f' with
  | zero=>rfl
  | succ f'=>
   show 0=(match ss[n]? with | none=>0 | some s=>_)
   rw [pV (by omega)]
 | succ f ih=>
  intro f' n h1 h2;cases hs:ss[n]? with
  | none=>
   have e:∀f,Wf ss f n=0:=fun f=>by
    cases f with
    | zero=>rfl
    | succ f=>show (match ss[n]? with | none=>0 | some s=>_)=0;rw [hs]
   rw [e,e]
  | some s=>
   have hn:=(cw.1 hs).1;obtain ⟨f',rfl⟩:∃i,f'=i+1:=⟨f' - 1,by omega⟩
   show (match ss[n]? with | none=>0 | some s=>_)=(match ss[n]? with | none=>0 | some s=>_)
   rw [hs];show lA s+_=lA s+_;congr 2;refine UU fun z hz=>?_
   obtain ⟨k,rfl,h3,h4⟩:=h.e n s z hs hz;exact ih f' _ (by simp;omega) (by simp;omega)
def Wn (ss:List PS) (n:Nat):Nat:=Wf ss ss.length n
theorem aeA {ss:List PS} (h:SF ss) {n:Nat} {s:PS} (hs:ss[n]? = some s):Wn ss n=lA s+((br s).map fun z=>Wn ss z.toNat).sum:=by
 have hn:=(cw.1 hs).1;obtain ⟨f,hf⟩:∃f,ss.length=f+1:=⟨ss.length - 1,by omega⟩
 have e:Wn ss n=lA s+((br s).map fun z=>Wf ss f z.toNat).sum:=by
  unfold Wn;rw [hf];show (match ss[n]? with | none=>0 | some s=>_)=_;rw [hs]
 rw [e];congr 2;refine UU fun z hz=>?_
 obtain ⟨k,rfl,h3,h4⟩:=h.e n s z hs hz;exact aq7 h _ _ _ (by simp;omega) (by simp)
theorem W9 (k:Nat):∀n,((List.range n).map fun i=>((i+1:Nat):Int)).count (k:Int)=if 1≤k∧k≤n then 1 else 0
 | 0=>by rw [aB (by omega)];rfl
 | n+1=>by
  rw [Ni,eB,UM,W9 k n];simp only [gl,AV,List.count_singleton];by_cases h:k=n+1
  ·subst h;rw [aB (by omega),aJ (by simp),aJ (by omega)]
  ·rw [aB (show ¬ (((n+1:Nat):Int)==(k:Int))=true by simp;omega)];by_cases h2:1≤k∧k≤n
   ·rw [aJ h2,aJ (by omega)]
   ·rw [aB h2,aB (by omega)]
theorem aou {ss:List PS} (h:SF ss) {L:Nat} (hL:ss.length=L+1):(ss.flatMap br).Perm ((List.range L).map fun i=>((i+1:Nat):Int)):=by
 have inF:∀a,a∈ss.flatMap br→∃k:Nat,a=(k:Int)∧1≤k∧k≤L:=by
  intro a ha;obtain ⟨s,hs,ha⟩:=Nd.1 ha;obtain ⟨i,hi,rfl⟩:=DQ hs;obtain ⟨k,e,h1,h2⟩:=h.e i _ a (gE hi) ha;exact ⟨k,e,by omega,by omega⟩
 refine List.perm_iff_count.2 fun a=>?_
 by_cases ha:∃k:Nat,a=(k:Int)∧1≤k∧k≤L
 ·obtain ⟨k,rfl,h1,h2⟩:=ha;rw [W9,aJ ⟨h1,h2⟩];exact h.u k h1 (by omega)
 ·rw [M9.2 fun hm=>ha (inF a hm),M9.2 fun hm=>?_];obtain ⟨i,hi,rfl⟩:=iz.1 hm;exact ha ⟨i+1,rfl,by omega,by have:=tD.1 hi;omega⟩
theorem aq5 {ss:List PS} (h:SF ss) (h0:ss≠[]):Wn ss 0=(ss.map lA).sum:=by
 obtain ⟨L,hL⟩:∃L,ss.length=L+1:=by cases ss with | nil=>exact absurd rfl h0 | cons a t=>exact ⟨t.length,rfl⟩
 have st:∀j,j≤ss.length→((List.range j).map (Wn ss)).sum=((ss.take j).map lA).sum+((PP ss j).map fun z=>Wn ss z.toNat).sum:=by
  intro j;induction j with
  | zero=>intro _;simp [PP]
  | succ j ih=>
   intro hj;have hs:ss[j]? = some ss[j]:=gE (by omega);rw [Ni,eB,List.sum_append,ih (by omega),Vh hs,uM,hs];have:=aeA h hs;simp only [eB,List.sum_append,gl,AV,yC,U0,Option.toList_some];omega
 have:=st ss.length (bT _);rw [AX,show PP ss ss.length=ss.flatMap br by simp [PP],((aou h hL).map _).sum_nat,hL,aeM] at this;simp only [gl,yC,UW] at this;have e:((List.range L).map (Wn ss∘Nat.succ)).sum=((List.range L).map ((fun z:Int=>Wn ss z.toNat)∘fun i=>((i+1:Nat):Int))).sum:=by
  congr 1;all_goals (refine UU fun i _=>?_;simp)
 omega
end
section
open Go Go.ax PT
open QQ (ik ma bF nV dg uU nG pM xZ pL bJ rq kU nc Al iS qt)
def r9 (l:LN):Bool:=l.d==0&&l.s.head? == some 125
section
variable {m:Nat} {Q:V→List (List C)→Prop} {K:j8.T→OR}
theorem abY (hm:1200≤m) {p:PC} (hp:gK p) (hh:HD p) (hS:SF p.ss) {t:List UInt8} (ht:t.length+4000000 * (2+Wn p.ss 0)≤100000000000000) {b:Bool} {o:List (List UInt8)} (hl:o.length≤2) (ho:∀y∈o,NL y∧y.length≤11)
  (h:∀ls,ev 0 0 0 (2+Wn p.ss 0) ls→ls.countP r9=1→Wp (K ((),bB (t++eW ls),())) Q) :
  Wp (oo (T m) b (o.map aL) [44,32] fun v4=>(aN (([112,114,111,99,32]++p.nm++[40]).length+List.length v4.1) (aN (([112,114,111,99,32]++p.nm++[40]++v4.1).length+3) (ie (T m) 0 ([112,114,111,99,32]++p.nm++[40]++v4.1++[41,32,123]) (bB t) fun v5=>(c93 (T m) p.nm p.pb (p.pm.map eK) p.tb (p.tm.map bA) p.sb (p.ss.map cT) 0 1 v5.2.1 fun v6=>(ie (T m) 0 [125] v6.2.1 fun v7=>(some ((.aq []),[(bx bl v7.2.1)])))))))) (J j8 K Q):=by
 have hj:=JT (N:=11) fun y hy=>(ho y hy).2
 have hn:=mB hh.hn;have nO:=hn.2;obtain ⟨D,hD⟩:=hS.d;have oJ:p.ss[0]? = some (p.ss[0]'(hp.s0)):=gE _;generalize p.ss[0]'(hp.s0)=s0 at oJ;have hi:inc s0≤1:=by unfold inc;split<;>omega
 have bk:=VT (D:=D) hp hS hh.hs (fun n s hs=>aeA hS hs) hD 80 0 s0 oJ (by have:=hh.hs;omega) m (by omega);refine Uh (by omega) (by omega) (fun y hy=>by have:=(ho y hy).2;omega) (cr (by simp;omega) (cr (by simp;omega) ?_));dsimp only;have hA:TL 112 123 ([112,114,111,99,32]++p.nm++[40]++ik o++[41,32,123]):=tl (by simp only [eI];exact ⟨⟨⟨⟨ch,hn.1⟩,ch⟩,FN fun y hy=>(ho y hy).1⟩,ch⟩) rfl rfl;have BP:([112,114,111,99,32]++p.nm++[40]++ik o++[41,32,123]).length≤100:=by simp;omega
 generalize [112,114,111,99,32]++p.nm++[40]++ik o++[41,32,123]=A at hA BP;refine uG (m:=m) (d:=0) (by omega) (by omega) (by omega) ?_;refine bk 1 _ _ _ (by omega) (by rw [eu,uk];dsimp only;omega) fun ls lN=>?_
 have hz:=lN.sz;refine uG (m:=m) (d:=0) (by omega) (by omega) (by simp only [eu,uk,gk,jB];omega) (aA ?_);unfold J;rw [rC];have sg:=((ev.one (e:=0) (d:=0) hA (by decide) (by omega) (by omega) (by omega) (Hg hA (by decide))).app (lN.deep (by omega))).app (ev.one Hk (by decide) (bT 0) (by omega) (by simp) Hf)
 have := h _ (by rw [show 2 + Wn p.ss 0 = 1 + Wn p.ss 0 + 1 by omega]; exact sg) (by
   rw [UL, UL]
   have e1 : List.countP r9 ls = 0 := List.countP_eq_zero.2 fun l hl => by
     have := (lN.ok l hl).2
     simp [r9]; omega
   have e2 : List.countP r9 [⟨0, A⟩] = 0 := by simp [r9, hA.h]
   rw [e1, e2]; rfl)
 simp only [sT,vJ,show eW []=[] from rfl,mJ,←ek] at this;exact this
theorem abV {p:PC} (hp:gK p) {x:List UInt8×Int×List UInt8} (hx:x∈p.pm):NL (x.1++[58,32]++ma x.2.1 x.2.2)∧(x.1++[58,32]++ma x.2.1 x.2.2).length≤11:=by
 obtain ⟨h1,h2⟩:=hp.p2 x hx;have:=QQ.Ir h1;rcases h2 with e | e<;>rw [e]<;>exact ⟨eI.2 ⟨ch,WO h1⟩,by simp;omega⟩
theorem abX (q:Nat) (hq:1200≤q) {p:PC} (hp:gK p) (hh:HD p) (hS:SF p.ss) {t:List UInt8} (ht:t.length+4000000 * (2+Wn p.ss 0)≤100000000000000)
  (h:∀ls,ev 0 0 0 (2+Wn p.ss 0) ls→ls.countP r9=1→Wp (K ((),bB (t++eW ls),())) Q) {x7:au bl}:∀(c i:Nat) (o:List (List UInt8)),p.pm.length - i < c→i≤p.pm.length→o.length=i→(∀y∈o,NL y∧y.length≤11)→
  Wp (J' (T q) q x7 c (bB t) (tP p) (o.map aL) p.pb (p.pm.map eK) (ae (p.pm.map eK).length) (i:Int)) (J j8 K Q)
 | 0,i,o,hc,_,_,_=>by omega
 | c+1,i,o,hc,hi,ho,hy=>by
  have h2:=hp.p1;have hn:=(mB hh.hn).2;refine aC akL (aj (fun g1=>?_) (fun _=>cr (by dsimp only [tP];omega) (cr (by simp [tP];omega) (aF (by simp) ?_))))
  ·have af:=bN g1;have hx:=hp.p2 _ (bM af);have hk:=abV hp (bM af);have jH:p.pm[i].1.length=1:=by rcases hx.2 with e | e<;>rw [e]<;>rfl
   have vq:=hk.2;simp only [eu] at vq;refine aM GZ rfl (gE af) (cr (by dsimp only;omega) ?_);refine aC (QQ.IF (by omega) hx.1 rfl) (cr (by simp only [eu];omega) (aF (gX (by simp;omega) (by omega)) ?_));rw [w1 (by omega),du]
   have := abX q hq hp hh hS ht h (x7 := x7) c (i + 1) (o ++ [p.pm[i].1 ++ [58, 32] ++ ma p.pm[i].2.1 p.pm[i].2.2]) (by omega) (by omega) (by simp; omega) (fun y fR => by
     rw [dC] at fR
     rcases fR with fR | fR
     · exact hy y fR
     · rw [uK.1 fR]; exact hk)
   rw [eB] at this;exact this
  ·rw [du,qz];exact abY hq hp hh hS ht (by omega) hy h
theorem aqL (hm:1210≤m) {p:PC} (hp:gK p) (hh:HD p) (hS:SF p.ss) {t:List UInt8} (ht:t.length+4000000 * (2+Wn p.ss 0)≤100000000000000)
  (h:∀ls,ev 0 0 0 (2+Wn p.ss 0) ls→ls.countP r9=1→Wp (K ((),bB (t++eW ls),())) Q):Wp (Wy (T m) p.nm p.pb (p.pm.map eK) p.tb (p.tm.map bA) p.sb (p.ss.map cT) (bB t) K) Q:=by
 obtain ⟨m,rfl⟩:=cE hm;obtain ⟨r,hr⟩:=bm 1 m;have e0:J9 (T m) m (bB t) m=J9 (T m) m (bB t) (r+1):=by rw [←hr]
 have h2:=hp.p1;have hn:=(mB hh.hn).2;refine bH age ?_;rw [e0];refine aC akK (aj (fun g1=>?_) (fun _=>cr (by dsimp only [tP];omega) (cr (by simp [tP];omega) ?_)))
 ·have af:=bN (i:=0) g1;have hx:=hp.p2 _ (bM af);have hk:=abV hp (bM af);have jH:p.pm[0].1.length=1:=by rcases hx.2 with e | e<;>rw [e]<;>rfl
  have vq:=hk.2;simp only [eu] at vq;refine aM GZ (i:=0) rfl (gE af) (cr (by dsimp only;omega) ?_);refine aC (QQ.IF (by omega) hx.1 rfl) (cr (by simp only [eu];omega) (aF rfl ?_));exact abX m (by omega) hp hh hS ht h r 1 [p.pm[0].1++([58,32]:List UInt8)++ma p.pm[0].2.1 p.pm[0].2.2] (by omega) (by omega) rfl (fun y hy=>by rw [uK.1 hy];exact hk)
 ·exact abY (o:=[]) (by omega) hp hh hS ht (by simp) (fun y hy=>by cases hy) h
end
def Di (i:Nat) (p:QQ.PT):LN:=⟨1,dg i++[58,32]++(if p.ms=[] then [101,110,100] else p.fr++[32,45,62,32]++p.to++nG p.ms)⟩
def GO:Nat→List QQ.PT→List LN
 | _,[]=>[]
 | i,p::t=>Di i p::GO (i+1) t
def Dh (nm:List UInt8) (M:Nat) (ps:List QQ.PT):List LN:=⟨0,[112,114,111,116,111,99,111,108,32]++nm++[32,114,111,108,101,115,32]++ik ((List.range M).map bJ)++[32,123]⟩::GO 0 ps++[⟨0,[125]⟩]
theorem aoJ (i:Nat) (p:QQ.PT):pM i p=qu (Di i p):=by
 unfold pM Di qu;split<;>simp [List.replicate]
theorem ab':∀(l:List QQ.PT) (i:Nat),xZ i l=eW (GO i l)++[125,10]
 | [],i=>rfl
 | p::t,i=>by
  show pM i p++xZ (i+1) t=eW (Di i p::GO (i+1) t)++_;rw [ab' t,aoJ,vJ,ek]
theorem ab4 (nm:List UInt8) (M:Nat) (ps:List QQ.PT):pL nm M ps=eW (Dh nm M ps):=by
 unfold pL Dh;rw [ab',sT,vJ];simp [qu,eW,ek]
theorem Xl {k:Nat} (hk:k < 10):NL (dg k)∧∃a,dg k=[a]∧a≠32∧a≠125:=
 QQ.Xm (p := fun _ s => NL s ∧ ∃ a, s = [a] ∧ a ≠ 32 ∧ a ≠ 125) (by
   refine ⟨?_, ?_, ?_, ?_, ?_, ?_, ?_, ?_, ?_, ?_⟩
   all_goals exact ⟨ch, _, rfl, by decide, by decide⟩) hk
theorem Tg {k:Nat} (h:k < 4):NL (bJ k):=by
 match k,h with
 | 0,_=>exact ch
 | 1,_=>exact ch
 | 2,_=>exact ch
 | 3,_=>exact ch
theorem ae2 {P:Nat} (hP:P≤10) {l:List QQ.AM} (h:nc P l):NL (nG l):=by
 unfold nG;refine eI.2 ⟨eI.2 ⟨ch,FN fun y hy=>?_⟩,ch⟩;obtain ⟨x,hx,rfl⟩:=iz.1 hy;obtain ⟨h1,h2,h3⟩:=h.2.2.2 x hx;have hl:NL x.mw:=by
  simp only [qt,gT,nD,nF] at h1;rcases h1 with e | e | e | e | e<;>rw [e]<;>exact ch
 unfold uU;exact eI.2 ⟨eI.2 ⟨eI.2 ⟨eI.2 ⟨hl,ch⟩,WO h2⟩,ch⟩,(Xl (by omega)).1⟩
theorem aoK {P M i:Nat} (hP:P≤10) (hM:M≤4) (hi:i < 10) {p:QQ.PT} (h:rq P M p):ev 0 (1:Nat) (1:Nat) 1 [Di i p]:=by
 obtain ⟨hd,a,ha,YC,YD⟩:=Xl hi;unfold Di;rcases h with ⟨_,_,h3⟩ | ⟨k,j,hk,hj,_,hf,ht,hm⟩
 ·rw [aJ h3];have:TL a 100 (dg i++[58,32]++[101,110,100]):=tl (eI.2 ⟨eI.2 ⟨hd,ch⟩,ch⟩) (by rw [ha];rfl) rfl;exact ev.one this YC (by omega) (by omega) (by rw [ha];simp) (TU this YD (by decide))
 ·have az:p.ms≠[]:=by
   intro e;have:=hm.1;rw [e] at this;cases this
  rw [aB az];have hn:=ae2 hP hm;have hl:=QQ.Ee hm;have:TL a 125 (dg i++[58,32]++(p.fr++[32,45,62,32]++p.to++nG p.ms)):=by
   refine tl (eI.2 ⟨eI.2 ⟨hd,ch⟩,?_⟩) (by rw [ha];rfl) ?_
   ·rw [hf,ht];exact eI.2 ⟨eI.2 ⟨eI.2 ⟨Tg (by omega),ch⟩,Tg (by omega)⟩,hn⟩
   ·unfold nG;rw [DR,DR];rfl
  refine ev.one this YC (by omega) (by omega) ?_ (TU this YD (by decide));rw [hf,ht,ha];simp [bJ];omega
theorem acd {P M:Nat} (hP:P≤10) (hM:M≤4):∀(l:List QQ.PT) (i:Nat),i+l.length≤10→(∀p∈l,rq P M p)→ev 0 (1:Nat) (1:Nat) l.length (GO i l)
 | [],i,_,_=>ev.nil
 | p::t,i,hl,h=>by
  have mf:i+(t.length+1)≤10:=hl;have:=(aoK hP hM (i:=i) (by omega) (h p jR)).app (acd hP hM t (i+1) (by omega) fun x hx=>h x (kD _ hx));rw [gk,Nat.add_comm];exact this
theorem ab5 {nm:List UInt8} (hn:nm=[112]∨nm=[113]) {M:Nat} {ps:List QQ.PT} (h:kU M ps):ev 0 0 0 (2+ps.length) (Dh nm M ps):=by
 have hM:=h.2.1;have h8:=h.2.2.2.1;have hy:∀y∈(List.range M).map bJ,NL y∧y.length≤1:=by
  intro y hy;obtain ⟨k,hk,rfl⟩:=iz.1 hy;exact ⟨Tg (by have:=tD.1 hk;omega),by simp [bJ]⟩
 have hj:=JT (N:=1) fun y fR=>(hy y fR).2
 rw [cy,UT] at hj;have hA:TL 112 123 ([112,114,111,116,111,99,111,108,32]++nm++[32,114,111,108,101,115,32]++ik ((List.range M).map bJ)++[32,123]):=by
  refine tl ?_ rfl rfl;rcases hn with rfl | rfl<;>exact eI.2 ⟨eI.2 ⟨ch,FN fun y fR=>(hy y fR).1⟩,ch⟩
 have sg:=((ev.one (e:=0) (d:=0) hA (by decide) (by omega) (by omega) (by rcases hn with rfl | rfl<;>simp<;>omega) (Hg hA (by decide))).app (acd (by omega) hM ps 0 (by omega) h.2.2.2.2)).app (ev.one Hk (by decide) (bT 0) (by omega) (by simp) Hf);rw [show 2+ps.length=1+ps.length+1 by omega];exact sg
end
section
open Go Go.ax
section
variable {A B:bX}
theorem ZR {f g:St→Option (tH×St)} (h:∀S x,f S=some x→g S=some x):∀(n:Nat) (S:St) x,iter f n S=some x→iter g (n+1) S=some x
 | 0,S,x,he=>by cases he
 | n+1,S,x,he=>by
  rw [iter] at he ⊢;cases hf:f S with
  | none=>simp [hf] at he
  | some y=>
   rw [hf] at he;rw [h S y hf];simp only [Option.bind] at he ⊢;obtain ⟨e,S1⟩:=y;cases e with
   | norm=>exact ZR h n S1 x he
   | exit i=>exact he
   | ret=>exact he
theorem ahQ (h:tI A B) (n:Nat):∀(c:lY) (S:St) x,dm A n c S=some x→dm B (n+1) c S=some x:=by
 intro c;induction c with
 | skip=>intro S x he;exact he
 | iY keep gc ops draw=>intro S x he;exact ahR h n (.iY keep gc ops draw) S x he
 | seq a b zN zP=>
  intro S x he;simp only [dm] at he ⊢;cases h1:dm A n a S with
  | none=>simp [h1] at he
  | some y=>
   rw [h1] at he;rw [zN S y h1];obtain ⟨e,S1⟩:=y;simp only [Option.bind] at he ⊢;cases e with
   | norm=>exact zP S1 x he
   | exit i=>exact he
   | ret=>exact he
 | cond c a b zN zP=>
  intro S x he;simp only [dm] at he ⊢;cases h1:yV S c with
  | none=>simp [h1] at he
  | some t=>
   rw [h1] at he;simp only [Option.bind] at he ⊢;cases t with
   | true=>exact zN S x he
   | false=>exact zP S x he
 | block id b ih=>
  intro S x he;simp only [dm] at he ⊢;cases h1:dm A n b S with
  | none=>simp [h1] at he
  | some y=>rw [h1] at he;rw [ih S y h1];exact he
 | loop b ih=>intro S x he;simp only [dm] at he ⊢;exact ZR ih n S x he
 | exit id=>intro S x he;exact he
 | ret=>intro S x he;exact he
theorem ahP (h:tI A B) (n:Nat) (fn:lj) (args:List V) (bx:List (List C)) (r) (he:u6 A n fn args bx=some r):u6 B (n+1) fn args bx=some r:=by
 unfold u6 at he ⊢;split at he
 ·rename_i hl;rw [aJ hl];cases h1:dm A n fn.body (ga 0 args++dk 0 bx) with
  | none=>simp [h1] at he
  | some y=>rw [h1] at he;rw [ahQ h n _ _ y h1];exact he
 ·cases he
theorem XO {t:Nat→Option lj} {p:bX}:∀n,tI (nH t p n) (nH t p (n+1))
 | 0=>fun f vs bx r h=>by cases h
 | n+1=>fun f vs bx r h=>by
  simp only [nH] at h ⊢;cases hx:t f with
  | none=>simp only [hx] at h ⊢;exact h
  | some fn=>simp only [hx] at h ⊢;exact ahP (XO n) n fn vs bx r h
end
theorem aeW {n k f:Nat} {vs:List V} {bs:List (List C)} {r:V×List (List C)} (h:T n f vs bs=some r) (hk:n≤k):T k f vs bs=some r:=by
 obtain ⟨j,rfl⟩:∃j,k=n+j:=⟨k - n,by omega⟩
 clear hk;induction j with
 | zero=>exact h
 | succ j ih=>
  unfold T at ih ⊢;exact XO (n+j) f vs bs r ih
end
section
open Go Go.ax PT
open QQ (ik ma bF nV pL vK wy pR Ak C8)
theorem Hj {X:Type} (f:X→Nat) (c:Nat):∀l:List X,(∀x∈l,f x≤c)→(l.map f).sum≤l.length * c
 | [],_=>by simp
 | a::t,h=>by
  have h1:=h a jR;have h2:=Hj f c t fun x hx=>h x (kD _ hx)
  simp only [gl,yC,gk,lJ,Nat.one_mul];omega
def wP (p:PC):Nat:=2+Wn p.ss 0
theorem aqw {p:PC} (hp:gK p) (hS:SF p.ss):wP p=2+(p.ss.map lA).sum:=by
 unfold wP;rw [aq5 hS (by intro e;have:=hp.s0;rw [e] at this;cases this)]
theorem ad5 {p:PC} (hp:gK p) (hh:HD p) (hS:SF p.ss):wP p≤17000:=by
 have:=Hj lA 202 p.ss fun s hs=>by
  have:=(hp.s2 s hs).2.2.2;unfold lA;split
  ·omega
  ·split<;>omega
 have me:=hh.hs;have:p.ss.length * 202≤80 * 202:=pY _ me;rw [aqw hp hS];omega
theorem anM {ts:List QQ.TN} (h:Ak ts):(vK ts).length≤600:=by
 have st:∀(l:List QQ.TN) (i:Nat),(∀p∈l,C8 ts.length p)→(wy i l).length≤80 * l.length+2:=by
  intro l;induction l with
  | nil=>intro i _;simp [wy]
  | cons p t ih=>
   intro i h;have h1:=QQ.adM (i:=i) (h p jR);have h2:=ih (i+1) fun x hx=>h x (kD _ hx)
   show (pR i p++wy (i+1) t).length≤_;rw [eu,gk];omega
 have:=st ts 0 h.2.2;have:=h.2.1;unfold vK;rw [eu];simp;omega
def Ap (gs:List GP):List UInt8:=gs.flatMap fun g=>pL g.nm g.M g.ps
def Ac (ls:List LK):List UInt8:=ls.flatMap fun l=>vK l.ts
theorem aoG {g:GP} (h:jZ g):(pL g.nm g.M g.ps).length≤40000000:=by
 have:=(ab5 h.1 h.2).sz;have:=h.2.2.2.2.1;rw [ab4];omega
abbrev H8 (b1 b2 b3:Bool) (gs:List GP) (ls:List LK) (ay:List PC):List V:=[(.agg [(lC (.im b1) 3 ((gs.map eQ).map di)),(lC (.im b2) 2 (ls.map kH)),(lC (.im b3) 4 (ay.map eD))])]
section
variable {m:Nat} {Q:V→List (List C)→Prop} {b1 b2 b3:Bool} {gs:List GP} {ls:List LK} {ay:List PC} {K:fI.T→OR}
theorem abZ (q:Nat) (hq:1300≤q) (cK:ay.length≤20) (hp:∀p∈ay,gK p) (hh:∀p∈ay,HD p∧SF p.ss):∀(c i:Nat) (t:List UInt8),ay.length - i < c→i≤ay.length→t≠[]→t.length+4000000 * ((ay.drop i).map wP).sum≤100000000000000→
  (∀gC,ev 0 0 0 ((ay.drop i).map wP).sum gC→gC.countP r9=ay.length - i→Wp (K (t++eW gC,())) Q)→
  Wp (J3 (T q) q c (bB t) b3 (ay.map eD) (ae (ay.map eD).length) (i:Int)) (J fI K Q)
 | 0,i,t,hc,_,_,_,_=>by omega
 | c+1,i,t,hc,hi,az,hl,h=>by
  refine aC Ri (aj (fun g1=>?_) (fun g1=>?_))
  ·have af:=bN g1;have hm:=bM af;rw [tA af,gl,yC] at hl h;refine aM (enc:=eD) (f:=tP) (fun a=>⟨by simp [eD],rfl⟩) rfl (gE af) ?_;refine aqL (m:=q) (by omega) (hp _ hm) (hh _ hm).1 (hh _ hm).2 (t:=t) (by unfold wP at hl;omega) fun l0 h0 h0c=>?_
   have hz:=h0.sz;dsimp only;rw [w1 (by omega)];refine abZ q hq cK hp hh c (i+1) _ (by omega) (by omega) (fun e=>az (Hz.1 e).1) (by rw [eu];unfold wP at hl ⊢;omega) fun l1 h1 h1c=>?_
   have:=h (l0++l1) (h0.app h1) (by rw [UL,h0c,h1c];omega);rw [sT,←ek] at this;exact this
  ·have eV:=zg g1;have e:ay.drop i=[]:=DP eV;rw [e] at h hl;simp at hl;have hs:=h [] ev.nil (by simp;omega);rw [show eW []=[] from rfl,mJ] at hs;have st:=TY q (by omega) t az (by omega);refine aC (show c37 (T q) (bB t) _=_ by rw [c37,st,acA]) (aA (aE rfl hs))
theorem ab2 (q:Nat) (hq:1300≤q) (fW:ls.length≤5) (nM:∀l∈ls,xS l) (cK:ay.length≤20) (hp:∀p∈ay,gK p) (hh:∀p∈ay,HD p∧SF p.ss) {b1:Bool}:∀(c i:Nat) (t:List UInt8),ls.length - i < c→i≤ls.length→t≠[]→t.length+600 * (ls.length - i)+4000000 * (ay.map wP).sum≤100000000000000→
  (∀gC,ev 0 0 0 (ay.map wP).sum gC→gC.countP r9=ay.length→Wp (K (t++Ac (ls.drop i)++eW gC,())) Q)→
  Wp (FW (T q) q c (GR b1 b2 b3 (gs.map eQ) (ls.map kH) ay) (bB t) b2 (ls.map kH) (ae (ls.map kH).length) (i:Int)) (J fI K Q)
 | 0,i,t,hc,_,_,_,_=>by omega
 | c+1,i,t,hc,hi,az,hl,h=>by
  refine aC Z1 (aj (fun g1=>?_) (fun g1=>?_))
  ·have af:=bN g1;obtain ⟨hn,ho⟩:=nM _ (bM af);have hz:=anM ho;refine aM (enc:=kH) (f:=fun l=>(l.nm,(l.b,l.ts.map QQ.cN),())) (fun a=>⟨by simp [kH],rfl⟩) rfl (gE af) ?_;dsimp only;rw [hn];refine aC (QQ.afE (by omega) _ ho rfl) (Uo (m:=q) (by omega) (by dsimp only;omega) fun n=>fK rfl ?_);dsimp only;rw [w1 (by omega)];refine ab2 q hq fW nM cK hp hh c (i+1) _ (by omega) (by omega) (fun e=>az (Hz.1 e).1) (by rw [eu];omega) fun gC h1 h2=>?_
   have:=h gC h1 h2;rw [tA af,show Ac (ls[i]::ls.drop (i+1))=vK ls[i].ts++Ac (ls.drop (i+1)) from rfl,←ek t] at this;exact this
  ·have eV:=zg g1;have e:ls.drop i=[]:=DP eV;rw [e] at h;refine abZ q hq cK hp hh q 0 t (by omega) (by omega) az (by rw [AT];omega) fun gC h1 h2=>?_
   have:=h gC (by simpa using h1) h2;rw [show Ac []=[] from rfl,mJ] at this;exact this
theorem ab3 (q:Nat) (hq:1300≤q) (gA:gs.length≤5) (hg:∀g∈gs,jZ g) (fW:ls.length≤5) (nM:∀l∈ls,xS l) (cK:ay.length≤20) (hp:∀p∈ay,gK p) (hh:∀p∈ay,HD p∧SF p.ss):∀(c i:Nat) (t:List UInt8),gs.length - i < c→i≤gs.length→(i=gs.length→t≠[])→t.length+40000000 * (gs.length - i)+600 * ls.length+4000000 * (ay.map wP).sum≤100000000000000→
  (∀gC,ev 0 0 0 (ay.map wP).sum gC→gC.countP r9=ay.length→Wp (K (t++Ap (gs.drop i)++Ac ls++eW gC,())) Q)→
  Wp (FX (T q) q c (GR b1 b2 b3 (gs.map eQ) (ls.map kH) ay) (bB t) b1 ((gs.map eQ).map di) (ae ((gs.map eQ).map di).length) (i:Int)) (J fI K Q)
 | 0,i,t,hc,_,_,_,_=>by omega
 | c+1,i,t,hc,hi,az,hl,h=>by
  refine aC Z2 (aj (fun g1=>?_) (fun g1=>?_))
  ·have zA:=bN g1;have af:i < gs.length:=by simpa using zA
   have ok:=hg _ (bM af);have hz:=aoG ok;refine aM SZ rfl (a:=eQ gs[i]) (by rw [bS,gE af];rfl) ?_;have hn:(gs[i]).nm∈QQ.lR:=by rcases ok.1 with e | e<;>rw [e]<;>decide
   have mh:(gs[i]).nm.length≤1:=by rcases ok.1 with e | e<;>rw [e]<;>decide
   have Qz:pL gs[i].nm gs[i].M gs[i].ps≠[]:=by unfold pL;simp
   have t1:=fun K z hK=>QQ.afK (m:=q) (K:=K) (z:=z) hn mh (by omega) false false ok.2 hK
   rw [G6] at t1;refine aC (t1 _ _ rfl) (Uo (m:=q) (by omega) (by dsimp only;omega) fun n=>fK rfl ?_);dsimp only;rw [w1 (by omega)];refine ab3 q hq gA hg fW nM cK hp hh c (i+1) _ (by omega) (by omega) (fun _ e=>Qz (Hz.1 e).2) (by rw [eu];omega) fun gC h1 h2=>?_
   have:=h gC h1 h2;rw [tA af,show Ap (gs[i]::gs.drop (i+1))=pL gs[i].nm gs[i].M gs[i].ps++Ap (gs.drop (i+1)) from rfl,←ek t] at this;exact this
  ·have ajs:=zg g1;have eV:gs.length≤i:=by simpa using ajs
   have e:gs.drop i=[]:=DP eV;rw [e] at h;refine ab2 q hq fW nM cK hp hh q 0 t (by omega) (by omega) (az (by omega)) (by omega) fun gC h1 h2=>?_
   have:=h gC h1 h2;rw [show Ap []=[] from rfl,mJ] at this;exact this
theorem aqM (hm:60000≤m) {o:V×List (List C)} {x:dw.T} (ho:∀n,50000≤n→T n 12 (H8 b1 b2 b3 gs ls ay) []=some o) (hx:ig dw o=some x) (Jl:gs≠[]) (gA:gs.length≤5) (hg:∀g∈gs,jZ g) (fW:ls.length≤5) (nM:∀l∈ls,xS l) (cK:ay.length≤20) (hp:∀p∈ay,gK p) (hh:x.1.1=0→∀p∈ay,HD p∧SF p.ss)
  (h0:x.1.1≠0→Wp (K ([],())) Q) (h1:x.1.1=0→∀gC,ev 0 0 0 (ay.map wP).sum gC→gC.countP r9=ay.length→Wp (K (Ap gs++Ac ls++eW gC,())) Q) :
  Wp (N4 (T m) b1 ((gs.map eQ).map di) b2 (ls.map kH) b3 (ay.map eD) K) Q:=by
 obtain ⟨m,rfl⟩:=cE hm;refine bH Xr (ke (ho m (by omega)) hx (aj (fun g=>aA (aE rfl (h0 (DX.1 g)))) (fun g=>?_)));have hz:x.1.1=0:=by simpa using g
 have Qi:=hh hz;have hs:=Hj wP 17000 ay fun p mn=>ad5 (hp p mn) (Qi p mn).1 (Qi p mn).2
 have:ay.length * 17000≤20 * 17000:=pY _ cK;refine ab3 m (by omega) gA hg fW nM cK hp Qi m 0 [] (by omega) (by omega) (fun e=>absurd (pW.1 e.symm) Jl) (by simp;omega) fun gC a b=>?_
 exact h1 hz gC a b
end
end
section
open Go Go.ax PT
open QQ (ik ma bF nV pL vK Ak)
theorem afC {b1 b2 b3:Bool} {gs:List GP} {ls:List LK} {ay:List PC} (gA:gs.length≤5) (hg:∀g∈gs,jZ g) (fW:ls.length≤5) (nM:∀l∈ls,xS l) (cK:ay.length≤20) (hp:∀p∈ay,gK p) :
  ∃(o:V×List (List C)) (x:dw.T),(∀n,50000≤n→T n 12 (H8 b1 b2 b3 gs ls ay) []=some o)∧ig dw o=some x∧(x.1.1=0→∀p∈ay,HD p∧SF p.ss):=by
 classical
 have h:=aqC (m:=50000) (b1:=b1) (b2:=b2) (b3:=b3) (Q:=fun _ _=>True) (by omega) (ls:=ls) (by omega) nM (gs:=gs) (by omega) hg cK hp (K:=fun x=>if x.1.1=0→∀p∈ay,HD p∧SF p.ss then some (.aq [],[]) else none)
  ⟨fun e a b he => by
    show Wp (if (e = 0 → _) then _ else _) _
    rw [aJ fun h => absurd h he]; exact aA trivial, fun hh => by
    show Wp (if ((0 : Int) = 0 → _) then _ else _) _
    rw [aJ fun _ => hh]; exact aA trivial⟩
 obtain ⟨v,bs,e,_⟩:=h;change aH dw (T 50000 12 (H8 b1 b2 b3 gs ls ay) []) _=_ at e;cases ho:T 50000 12 (H8 b1 b2 b3 gs ls ay) [] with
 | none=>rw [ho] at e;simp [aH] at e
 | some o=>
  rw [ho] at e;simp only [aH] at e;cases hx:ig dw o with
  | none=>rw [hx] at e;cases e
  | some x=>
   rw [hx] at e;refine ⟨o,x,fun n hn=>aeW ho hn,hx,?_⟩;by_cases hP:x.1.1=0→∀p∈ay,HD p∧SF p.ss
   ·exact hP
   ·simp only [aB hP] at e;cases e
def vW (gs:List GP):List LN:=gs.flatMap fun g=>Dh g.nm g.M g.ps
theorem ab6:∀gs:List GP,Ap gs=eW (vW gs)
 | []=>rfl
 | g::t=>by
  show pL g.nm g.M g.ps++Ap t=eW (Dh g.nm g.M g.ps++vW t);rw [sT,ab6 t,ab4]
def wG (g:GP):Nat:=2+g.ps.length
theorem ab7:∀{gs:List GP},(∀g∈gs,jZ g)→ev 0 0 0 (gs.map wG).sum (vW gs)
 | [],_=>ev.nil
 | g::t,h=>(ab5 (h g jR).1 (h g jR).2).app (ab7 fun x hx=>h x (kD _ hx))
theorem aqv {g:GP} (h:jZ g):wG g≤10:=by
 have:=h.2.2.2.2.1;unfold wG;omega
theorem ap0 {gs:List GP} {ay:List PC} (gA:gs.length≤5) (hg:∀g∈gs,jZ g) (cK:ay.length≤20) (hp:∀p∈ay,gK p) (hh:∀p∈ay,HD p∧SF p.ss) {gC:List LN} (h:ev 0 0 0 (ay.map wP).sum gC) :
  ev 0 0 0 ((gs.map wG).sum+(ay.map wP).sum) (vW gs++gC)∧(gs.map wG).sum≤50∧(ay.map wP).sum≤340000∧(eW (vW gs++gC)).length≤1900000000000:=by
 have hs:=Hj wP 17000 ay fun p mn=>ad5 (hp p mn) (hh p mn).1 (hh p mn).2
 have:ay.length * 17000≤20 * 17000:=pY _ cK;have lu:=Hj wG 10 gs fun g sD=>aqv (hg g sD)
 have sg:=(ab7 hg).app h;have:=sg.sz;exact ⟨sg,by omega,by omega,by omega⟩
section
variable {Q:V→List (List C)→Prop}
theorem aql (c:UInt8):(ae c.toNat==10)=(c==10):=by
 rw [show (10:Int)=((10:Nat):Int) from rfl,Gy];by_cases h:c=10
 ·subst h;rfl
 ·rw [nE.2 h];exact bV fun e=>h (UInt8.toNat_inj.1 e)
theorem wC {i:Nat} (h:i≤100000000000000):ak ((i:Int)+1)=((i+1:Nat):Int):=gM
end
end
section
open Go Go.ax
abbrev TV:List D:=[.int .i64 0,.str [],.str [],.str [],.str [],.int .i64 (-1),.sl (.im true) 1 [],.sl (.im true) 3 [],.sl (.im true) 3 [],.int .i64 (-1)]
abbrev SG:List D:=[.str [109,97,105,110],.sl (.im true) 3 [],.sl (.im true) 6 [],.sl (.im false) 10 [TV]]
theorem afB (m:Nat):T (m+60) 12 [.agg [lC (.im true) 3 [],lC (.im true) 2 [],lC (.im false) 4 [SG]]] []=some (.agg [iC 0,iC 0,iC 0],[]):=by kernel_rfl
end
section
open Go Go.ax
theorem aoC (m:Nat):T (m+60) 36 [pE,.agg [sC [109,97,105,110],lC (.im true) 3 [],lC (.im true) 6 [],lC (.im false) 10 [TV]]] [bx bl ((),(.im true,[]),())]=some (.aq [],[bx bl ((),(.own,D.da [112,114,111,99,32,109,97,105,110,40,41,32,123,10,32,32,115,116,111,112,10,125,10]),())]):=by kernel_rfl
theorem apY (m:Nat):T (m+60) 15 [.one (lC (.im false) 6 [[(.int .i64 0),(.str [120]),(.int .i64 0),(.str []),(.int .i64 (-1)),(.int .i64 (-1))],[(.int .i64 1),(.str []),(.int .i64 (-1)),(.str []),(.int .i64 (-1)),(.int .i64 (-1))],[(.int .i64 6),(.str []),(.int .i64 0),(.str []),(.int .i64 0),(.int .i64 1)]]),.one (iC 2)] []=some (.one (sC [40,120,32,43,32,45,49,41]),[]):=by kernel_rfl
end
section
open Go Go.ax
theorem ap8 {o:OR} {K:au eO×Unit→OR} {z:OR} {a b c:Int} (h:o=some (.agg [iC a,iC b,iC c],[])) (h2:K ((a,b,c,()),())=z):aH dw o K=z:=DH (v:=(a,b,c,())) h rfl h2
theorem ap' {o:OR} {K:Unit×au bl×Unit→OR} {z:OR} {p:au bl} (h:o=some (.aq [],[bx bl p])) (h2:K ((),p,())=z):aH j8 o K=z:=T5 h h2
theorem aqb {o:OR} {K:BB×au yo×Unit→OR} {z:OR} {s:BB} (h:o=some (.one (sC s),[bx yo ((),(),())])) (h2:K (s,((),(),()),())=z):aH Tj o K=z:=by
 subst h;exact h2
theorem aoD (m:Nat):T (m+61) 11 [.agg [lC (.im true) 3 [],lC (.im true) 2 [],lC (.im false) 4 [SG]]] []=some (.one (sC [112,114,111,99,32,109,97,105,110,40,41,32,123,10,32,32,115,116,111,112,10,125,10]),[]):=by
 refine Xr _ (ap8 (afB m) (bU rfl ?_));rw [Z2];refine bU rfl ?_;rw [Z1];refine bU rfl ?_;rw [Ri];refine dD rfl (iI (i:=0) (v:=([109,97,105,110],(true,[]),(true,[]),(false,[TV]),())) rfl (r:=SG) rfl (by decide) rfl (ap' (aoC m) ?_));dsimp only;rw [Ri];exact bU (by decide) (aqb (TY (m+60) (by omega) [112,114,111,99,32,109,97,105,110,40,41,32,123,10,32,32,115,116,111,112,10,125,10] (by decide) (by decide)) rfl)
theorem aiE {n:Nat} (hn:100≤n):T n 9 [] []=some (.one (bC true),[]):=by
 obtain ⟨m,rfl⟩:=bm 62 n;exact agi _ (tf (apY (m+1)) (dD rfl (tf (aoD m) (dD rfl (tf (QQ.abK (m+61) (by omega) (k:=5) (x:=[112,46,97]) (by decide)) rfl)))))
end
section
open Go Go.ax PT
open QQ (ik ma bF nV pL vK Ak)
section
variable {Q:V→List (List C)→Prop} {gs:List GP} {ay:List PC}
end
end
section
open Go Go.ax PT
open QQ (ik ma bF nV pL vK Ak)
theorem T8 (c k:UInt8) {z:Int} (hz:z=(k.toNat:Int)):(ae c.toNat==z)=(c==k):=by
 rw [hz,Gy];by_cases h:c=k
 ·subst h;simp
 ·rw [nE.2 h];exact bV fun e=>h (UInt8.toNat_inj.1 e)
theorem wa {a b:Nat} (h:a+b≤100000000000000):ak ((a:Int)+(b:Int))=((a+b:Nat):Int):=gM
theorem Ib {pre b post:List UInt8} {j:Nat} (hj:j < b.length):(pre++(b++post))[pre.length+j]? = b[j]?:=by
 rw [nC (by omega),aeO,nB hj]
section
variable {Q:V→List (List C)→Prop} {pre post b s:List UInt8}
theorem VR (q:Nat) (hs:s=pre++(b++10::post)) (hl:s.length≤1900000000000) (hb:NL b) {c1:Nat} {o:Int} (hZ:Wp (CB (T q) q c1 q s o (pre.length:Int) ((pre.length+b.length:Nat):Int)) Q):∀(c j:Nat),b.length - j < c→j≤b.length→
  Wp (Kc (T q) q c1 c s o (pre.length:Int) ((pre.length+j:Nat):Int)) Q
 | 0,j,hc,_=>by omega
 | c+1,j,hc,hj=>by
  have lx:s.length=pre.length+(b.length+(post.length+1)):=by rw [hs];simp
  refine aC akQ (fK (aY (by rw [bI];omega)) (hC rfl ?_));by_cases h:j < b.length
  ·have hg:s[pre.length+j]? = some b[j]:=by rw [hs,Ib h,gE h]
   refine fq hg (fK ?_ ?_)
   ·rw [show (ae (b[j]).toNat != 10) = !(ae (b[j]).toNat==10) from rfl,aql,nE.2 (hb _ (bM h))];rfl
   ·rw [wC (by omega)];exact VR q hs hl hb hZ c (j+1) (by omega) (by omega)
  ·have e:j=b.length:=by omega
   have hg:s[pre.length+j]? = some 10:=by
    rw [hs,nC (by omega),aeO,nC (by omega),e,DV];rfl
   refine fq hg (dJ rfl ?_);rw [e];exact hZ
theorem VQ (q:Nat) {d:Nat} {x:List UInt8} (hb:b=List.replicate (2 * d) 32++x) (hs:s=pre++(b++10::post)) (hl:s.length≤1900000000000) {a:UInt8} (hx:x.head? = some a) (ha:a≠32) {c1:Nat} {o:Int}
  (hZ:Wp (CA (T q) q c1 q s o (pre.length:Int) ((pre.length+b.length:Nat):Int) ((2 * d:Nat):Int)) Q):∀(c j:Nat),2 * d - j < c→j≤2 * d→
  Wp (Kb (T q) q c1 c s o (pre.length:Int) ((pre.length+b.length:Nat):Int) (j:Int)) Q
 | 0,j,hc,_=>by omega
 | c+1,j,hc,hj=>by
  have lx:s.length=pre.length+(b.length+(post.length+1)):=by rw [hs];simp
  have jY:0 < x.length:=by cases x with | nil=>cases hx | cons=>simp
  have qY:b.length=2 * d+x.length:=by rw [hb];simp
  refine aC akO ?_;rw [wa (by omega)];refine fK (aY (by omega)) (hC rfl (fq (by rw [hs,Ib (show j < b.length by omega)];exact gE (by omega)) ?_));rw [T8 (z:=32) _ 32 rfl];by_cases h:j < 2 * d
  ·have hg:b[j]'(by omega)=32:=by simp only [hb];rw [List.getElem_append_left (by simpa using h),List.getElem_replicate]
   rw [hg,wC (by omega)];exact fK rfl (VQ q hb hs hl hx ha hZ c (j+1) (by omega) (by omega))
  ·have e:j=2 * d:=by omega
   subst e;have hg:b[2 * d]'(by omega)=a:=by
    simp only [hb];rw [List.getElem_append_right (by simp)];simp only [HE,DV];rw [aeJ,gE jY] at hx;exact oY hx
   rw [hg];exact dJ (nE.2 ha) hZ
theorem VX (q:Nat) (hq:1900000000100≤q) (hl:s.length≤1900000000000) (az:s≠[]) (hQ:Q (.one (bC true)) []):∀(ls:List LN) (pre:List UInt8) (o:Int) (c:Nat),s=pre++eW ls→(∀l∈ls,okL l)→run o ls=some 0→ls.length < c→
  Wp (FY (T q) q c s o (pre.length:Int)) Q
 | [],pre,o,0,_,_,_,hc=>by omega
 | _::_,pre,o,0,_,_,_,hc=>by omega
 | [],pre,o,c+1,hs,_,hr,_=>by
  have e:s=pre:=by rw [hs];simp [eW]
  have ho:o=0:=oY hr;subst ho;have:0 < s.length:=List.length_pos_iff.2 az;refine aC Z4 (dJ (bV (by rw [bI,e];omega)) (fK rfl (aA ?_)));rw [aY (show ae s.length > 0 by rw [bI];omega)];exact hQ
 | ⟨d,x⟩::ls,pre,o,c+1,hs,aQ,hr,hc=>by
  obtain ⟨hn,a,hx,ha⟩:=aQ ⟨d,x⟩ jR;have jY:0 < x.length:=by
   cases x with
   | nil=>cases hx
   | cons=>simp
  obtain ⟨r,en⟩:∃r,q=r+1:=⟨q - 1,by omega⟩
  generalize hb:List.replicate (2 * d) 32++x=b;have sx:=hb.symm;have jI:s=pre++(b++10::eW ls):=by rw [hs,vJ];unfold qu;rw [hb];simp
  have ql:NL b:=by
   rw [←hb];exact eI.2 ⟨fun y hy=>by rw [aeH hy];decide,hn⟩
  have qY:b.length=2 * d+x.length:=by rw [←hb];simp
  have lx:s.length=pre.length+(b.length+((eW ls).length+1)):=by rw [jI];simp
  have e6:CB (T q) q c q=CB (T q) q c (r+1):=by rw [←en]
  have e4:CA (T q) q c q=CA (T q) q c (r+1):=by rw [←en]
  have e2:Ka (T q) q c q=Ka (T q) q c (r+1):=by rw [←en]
  have e1:Cz (T q) q c q=Cz (T q) q c (r+1):=by rw [←en]
  obtain ⟨o2,bp,pB⟩:=ff.1 hr;obtain ⟨o1,Fu⟩:∃o1,o1=if x.head? = some 125 then o - 1 else o:=⟨_,rfl⟩
  unfold step1 at bp;dsimp only at bp;rw [←Fu] at bp;have dq:(d:Int)=o1:=Decidable.byContradiction fun h=>by rw [aB h] at bp;cases bp
  rw [aJ dq,Fu] at bp;have hd:=dq.trans Fu;have JB:=oY bp;refine aC Z4 (fK (aY (by rw [bI];omega)) ?_);refine VR q jI hl ql ?_ q 0 (by omega) (by omega);rw [e6];refine aC akR (VQ q sx jI hl hx ha ?_ q 0 (by omega) (by omega));rw [e4];refine aC akP ?_;rw [wa (by omega)];refine dJ (nE.2 (by omega)) (dJ (nE.2 (by rw [bI];omega)) ?_);rw [e2];refine aC akN ?_;rw [wa (by omega)];have g1:s[pre.length+2 * d]? = some a:=by
   rw [jI,Ib (by omega),←hb,nC (by simp)];simp only [HE,DV];rw [←aeJ];exact hx
  refine hC rfl (fq g1 ?_);rw [T8 (z:=125) _ 125 rfl];have rest:Wp (Cz (T q) q c q s (d:Int) ((pre.length+b.length:Nat):Int) ((2 * d:Nat):Int)) Q:=by
   rw [e1];refine aC akM (dJ ?_ ?_)
   ·rw [show ak (2 * (d:Int))=((2 * d:Nat):Int) from gM];exact bne_self_eq_false _
   ·have ajy:∃y,x.getLast? = some y∧s[pre.length+b.length - 1]? = some y:=by
     obtain ⟨y,hy⟩:∃y,x.getLast? = some y:=by
      cases h:x.getLast? with
      | none=>rw [List.getLast?_eq_none_iff.1 h] at jY;cases jY
      | some y=>exact ⟨y,rfl⟩
     refine ⟨y,hy,?_⟩;rw [show pre.length+b.length - 1=pre.length+(b.length - 1) by omega,jI,Ib (by omega),←List.getLast?_eq_getElem?,←hb,DR,hy];rfl
    obtain ⟨y,hy,hg⟩:=ajy;rw [show ak (((pre.length+b.length:Nat):Int) - 1)=((pre.length+b.length - 1:Nat):Int) from gM];refine hC rfl (fq hg ?_);rw [T8 (z:=123) _ 123 rfl,wC (i:=pre.length+b.length) (by omega)];have Fx:(pre++(b++[10])).length=pre.length+b.length+1:=by simp;omega
    have nx:=fun o2 (h:run o2 ls=some 0)=>VX q hq hl az hQ ls (pre++(b++[10])) o2 c (by rw [jI];simp) (fun l hl=>aQ l (kD _ hl)) h (by simpa using hc)
    rw [Fx] at nx;refine aj (fun g=>?_) (fun g=>?_)
    ·have:y=123:=by simpa using g
     rw [this] at hy;rw [aJ hy,←hd] at JB;rw [wC (i:=d) (by omega)];exact nx _ (by rw [show ((d+1:Nat):Int)=(d:Int)+1 by omega,JB];exact pB)
    ·have:¬ x.getLast? = some 123:=by
      rw [hy];intro e;rw [oY e] at g;cases g
     rw [aB this,←hd] at JB;exact nx (d:Int) (by rw [JB];exact pB)
  refine aj (fun g=>?_) (fun g=>?_)
  ·have:a=125:=by simpa using g
   rw [this] at hx;rw [aJ hx] at hd;rw [show ak (o - 1)=(d:Int) by rw [←hd];exact gM rfl (by omega)];exact rest
  ·have:¬ x.head? = some 125:=by
    rw [hx];intro e;rw [oY e] at g;cases g
   rw [aB this] at hd;rw [←hd];exact rest
theorem afc {m:Nat} (hm:2000000000000≤m) {l:List Int} (hl:l.length * 8≤140737488355328) {b:Bool}:T m 3 [.one (lC (.im b) 1 (l.map bF))] []=some (.one (bC true),[]):=by
 obtain ⟨m,rfl⟩:=cE hm;suffices h:Wp _ fun v bs=>v = .one (bC true)∧bs=[] by
  obtain ⟨v,bs,e,rfl,rfl⟩:=h;exact agh _ e
 refine aC (oc (aiE (n:=m) (by omega)) rfl) (dJ rfl (aqN (m:=m) (by omega) hl fun gs ay Jl gA hg hpn cK hp=>?_));obtain ⟨o,x,ho,hx,hh⟩:=afC (b1:=false) (b2:=true) (b3:=false) (gs:=gs) (ls:=[]) (ay:=ay) (by omega) hg (by simp) (fun l hl=>by cases hl) cK hp;refine aqM (ls:=[]) (m:=m) (by omega) ho hx Jl (by omega) hg (by simp) (fun l hl=>by cases hl) cK hp hh (fun hz=>?_) (fun hz gC h1 _=>?_)
 ·exact ke (ho m (by omega)) hx (fK (DX.2 hz) (aA ⟨rfl,rfl⟩))
 ·refine ke (ho m (by omega)) hx (dJ (by rw [hz];rfl) ?_);obtain ⟨sg,_,_,hlen⟩:=ap0 (by omega) hg cK hp (hh hz) h1;have az:eW (vW gs++gC)≠[]:=by
   cases gs with
   | nil=>exact absurd rfl Jl
   | cons g t=>simp [vW,Dh,eW,qu]
  rw [show Ac []=[] from rfl,mJ,ab6,←sT];have fW:(vW gs++gC).length < m:=by rw [sg.len];omega
  exact VX (Q:=fun v bs=>v = .one (bC true)∧bs=[]) m (by omega) hlen az ⟨rfl,rfl⟩ (vW gs++gC) [] 0 m rfl (fun l hl=>(sg.ok l hl).1) sg.run fW
end
end
end Go.Proofs.YtfmpdgeiodnnfaaGreatDoor
namespace Go.ax
section
def Gq (P:Program):Nat→List Field→Option Nat
 | o,[]=>some o
 | o,f::t=>if f.offset=o then Gq P (o+P.cellsOf f.type) t else none
def lV (P:Program):Nat→TypeId→Bool
 | 0,_=>false
 | n+1,t=>match P.underlying t with
  | some .bool=>P.cellsOf t==1
  | some (.int _)=>P.cellsOf t==1
  | some .string=>P.cellsOf t==1
  | some (.slice e)=>P.cellsOf t==1&&decide (0 < P.cellsOf e)&&lV P n e
  | some (.struct fs)=>fs.toList.all (fun f=>lV P n f.type)&&Gq P 0 fs.toList==some (P.cellsOf t)
  | _=>false
theorem mapM_mono {α β:Type} {f g:α→Option β}:∀{l:List α} {ys:List β},l.mapM f=some ys→(∀i∈l,∀y,f i=some y→g i=some y)→l.mapM g=some ys
 | [],ys,h,_=>by simpa using h
 | x::l,ys,h,hm=>by
  rw [mL] at h ⊢;obtain ⟨y,h1,h2⟩:=bind_some h;obtain ⟨t,h3,h4⟩:=bind_some h2;rw [hm x (jR ..) y h1];show (List.mapM g l >>= fun bs=>pure (y::bs))=some ys;rw [mapM_mono h3 (fun i hi=>hm i (kD _ hi))];exact h4
section
variable {H:Type} {enc:TypeId×Value→H} {P:Program} {W W':World} {rE:Nat→Bool}
theorem afx (hold:∀B,B < W.heap.size→W'.heap[B]? = W.heap[B]?) {b n:Nat} {a:Addr} {cs:List Value} (h:W.cells? b a n=some cs):W'.cells? b a n=some cs:=by
 unfold World.cells? at h ⊢;split at h
 ·rename_i hb;rw [aJ hb];refine mapM_mono h (fun i _ y hy=>?_);have af:(a.add i).block < W.heap.size:=by
   unfold World.cell? at hy;split at hy
   ·rename_i hc;exact (lH.1 hc).1
   ·cases hy
  unfold World.cell? at hy ⊢;rw [hold _ af];exact hy
 ·cases h
theorem afy {b n:Nat} {a:Addr} {cs:List Value} (hn:0 < n) (h:W.cells? b a n=some cs):a.block < W.heap.size:=by
 unfold World.cells? at h;split at h
 ·cases n with
  | zero=>omega
  | succ n=>
   rw [aeM,mL] at h;obtain ⟨y,h1,_⟩:=bind_some h;unfold World.cell? at h1;split at h1
   ·rename_i hc;exact (lH.1 hc).1
   ·cases h1
 ·cases h
theorem aa0 {α β:Type} {f:α→Option β} {g:Nat→α→Option β} (hg:∀a b i y,a≤b→g a i=some y→g b i=some y):∀{l:List α} {ys:List β},l.mapM f=some ys→(∀i∈l,∀y,f i=some y→∃m,g m i=some y)→∃m,l.mapM (g m)=some ys
 | [],ys,h,_=>⟨0,by simpa using h⟩
 | x::l,ys,h,hm=>by
  rw [mL] at h;obtain ⟨y,h1,h2⟩:=bind_some h;obtain ⟨t,h3,h4⟩:=bind_some h2;obtain ⟨m1,k1⟩:=hm x (jR ..) y h1;obtain ⟨m2,k2⟩:=aa0 hg h3 (fun i hi=>hm i (kD _ hi));refine ⟨max m1 m2,?_⟩;rw [mL,hg m1 _ x y (Nat.le_max_left ..) k1];show (List.mapM (g (max m1 m2)) l >>= fun bs=>pure (y::bs))=some ys;rw [mapM_mono k2 (fun i _ y hy=>hg m2 _ i y (Nat.le_max_right ..) hy)];exact h4
theorem aqf (hold:∀B,B < W.heap.size→W'.heap[B]? = W.heap[B]?) (ue:∀b,b < W.heap.size→rE b=true):∀(n:Nat) (t:TypeId) (fuel:Nat) (cs:List Value) (x:DataW H×List MemPlace),lV P n t=true→
  DataW.trod enc P W 0 (fun _=>true) true fuel t cs=some x→∃m,DataW.trod enc P W' 0 rE true m t cs=some x:=by
 intro n;induction n with
 | zero=>intro t fuel cs x hs;simp [lV] at hs
 | succ n ih=>
  intro t fuel cs x hs h;simp only [lV] at hs;split at hs
  ·rename_i hu;cases fuel with
   | zero=>simp [DataW.trod] at h
   | succ fuel=>
    refine ⟨1,?_⟩;rw [DataW.trod_step] at h ⊢;unfold DataW.trodStep at h ⊢;simp only [hu] at h ⊢;split at h<;>simp_all
  ·rename_i hu;cases fuel with
   | zero=>simp [DataW.trod] at h
   | succ fuel=>
    refine ⟨1,?_⟩;rw [DataW.trod_step] at h ⊢;unfold DataW.trodStep at h ⊢;simp only [hu] at h ⊢;split at h<;>simp_all
  ·rename_i hu;cases fuel with
   | zero=>simp [DataW.trod] at h
   | succ fuel=>
    refine ⟨1,?_⟩;rw [DataW.trod_step] at h ⊢;unfold DataW.trodStep at h ⊢;simp only [hu] at h ⊢;split at h<;>simp_all
  ·rename_i e hu;simp only [bK,fA] at hs;obtain ⟨⟨_,EY⟩,mo⟩:=hs;rcases Go.Deep.open_slice hu h with ⟨rfl,rfl⟩ | ⟨a,len,cap,m,k,Dd,Pl,rfl,hb,hl,hm,Fm,rfl,hx⟩
   ·refine ⟨1,?_⟩;rw [DataW.trod_step];unfold DataW.trodStep;simp only [hu]
   ·have Fk:m=cap:=by simpa using Fm
    subst Fk;have fH:∀i,i < m→∃cs n,W'.cells? 0 (a.add (i * P.cellsOf e)) (P.cellsOf e)=some cs∧DataW.trod enc P W' 0 rE true n e cs=some (Dd i,Pl i):=by
     intro i hi;obtain ⟨ey,h1,h2⟩:=hx i hi;obtain ⟨m',h3⟩:=ih e k ey _ mo h2;exact ⟨ey,m',afx hold h1,h3⟩
    cases lu:rE a.block with
    | true=>exact Go.Deep.shut_slice_whole_cells hu hb hl hm lu Dd Pl fH
    | false=>
     have xe:m=0:=by
      rcases Nk m with h0 | h0
      ·exact h0
      ·obtain ⟨ey,h1,_⟩:=hx 0 h0;have:=ue _ (afy EY h1);have e1:(a.add (0 * P.cellsOf e)).block=a.block:=by first | rfl | (unfold Addr.add;split<;>rfl) | (unfold Addr.add;simp)
       rw [e1,lu] at this;cases this
     subst xe;obtain rfl:len=0:=by omega
     exact Go.Deep.shut_slice_cells hu hb hl hm lu Dd Pl (fun i hi=>by omega)
  ·rename_i fs hu;simp only [bK,lI] at hs;cases fuel with
   | zero=>simp [DataW.trod] at h
   | succ fuel=>
    rw [DataW.trod_step] at h;unfold DataW.trodStep at h;simp only [hu] at h;split at h
    ·rename_i hl;obtain ⟨xs,h1,h2⟩:=bG h;obtain ⟨m,h3⟩:=aa0 (g:=fun m (f:Field)=>DataW.trod enc P W' 0 rE true m f.type ((cs.drop f.offset).take (P.cellsOf f.type))) (fun a b i y jU hy=>DataW.trod_le jU hy) h1 (fun f hf y hy=>ih f.type fuel _ y (hs.1 f hf) hy);refine ⟨m+1,?_⟩;rw [DataW.trod_step];unfold DataW.trodStep;simp only [hu];rw [aJ hl,h3,h2];rfl
    ·cases h
  ·cases hs
end
end
section
mutual
def gG {H:Type} (P:Program):Nat→TypeId→DataW H→Option (List D)
 | 0,_,_=>none
 | n+1,t,d=>match P.underlying t,d with
  | some .bool,.lit (.bool b)=>some [.bool b]
  | some (.int _),.lit (.int k z)=>some [.int k z]
  | some .string,.lit (.string l)=>some [.str l]
  | some (.slice e),.nil=>some [.sl (.im true) (P.cellsOf e) []]
  | some (.slice e),.slice elems _=>(elems.mapM (gG P n e)).map fun rows=>[.sl (.im false) (P.cellsOf e) rows]
  | some (.struct fs),.agg ds=>w4 P n fs.toList ds
  | _,_=>none
def w4 {H:Type} (P:Program):Nat→List Field→List (DataW H)→Option (List D)
 | _,[],[]=>some []
 | n,f::fs,d::ds=>(gG P n f.type d).bind fun x=>(w4 P n fs ds).map (x ++ ·)
 | _,_,_=>none
end
section
variable {H:Type} {enc:TypeId×Value→H} {P:Program} {W:World} {L:aw}
theorem W4 {b n:Nat} {a:Addr} {cs:List Value} (h:W.cells? b a n=some cs):cs.length=n∧∀j,j < n→W.cell? (a.add j)=cs[j]?:=by
 unfold World.cells? at h;split at h
 ·have hl:∀(l:List Nat) (ys:List Value),l.mapM (fun i=>W.cell? (a.add i))=some ys→ys.length=l.length∧∀(j:Nat) i,l[j]? = some i→W.cell? (a.add i)=ys[j]?:=by
   intro l;induction l with
   | nil=>
    intro ys hy;have:ys=[]:=by simpa using hy.symm
    subst this;exact ⟨rfl,fun j i hj=>by simp at hj⟩
   | cons x l ih=>
    intro ys hy;rw [mL] at hy;obtain ⟨y,h1,h2⟩:=bind_some hy;obtain ⟨t,h3,h4⟩:=bind_some h2;cases h4;obtain ⟨g1,g2⟩:=ih t h3;refine ⟨by simp [g1],fun j i hj=>?_⟩;cases j with
    | zero=>simp at hj;subst hj;simpa using h1
    | succ j=>simpa using g2 j i (by simpa using hj)
  obtain ⟨h1,h2⟩:=hl _ _ h;refine ⟨by simpa using h1,fun j hj=>h2 j j (by simp [hj])⟩
 ·cases h
theorem W0 {a:Addr} {u:Value} (h:W.cell? a=some u):a.spot=none∧∃cur e fz,W.heap[a.block]? = some (.cells cur e fz)∧cur[a.off]? = some u:=by
 unfold World.cell? at h;split at h
 ·rename_i c e fz hc;split at h
  ·cases h
  ·rename_i hs;refine ⟨by simpa using hs,c,e,fz,hc,h⟩
 ·cases h
def tG (W:World) (L:aw) (l:List D) (cs:List Value):Prop:=l.length=cs.length∧∀(j:Nat) y u,l[j]? = some y→cs[j]? = some u→fM W L y u
theorem tG.app {l l':List D} {cs ey:List Value} (h:tG W L l cs) (h':tG W L l' ey):tG W L (l++l') (cs++ey):=by
 refine ⟨by simp [h.1,h'.1],fun j y u hy hu=>?_⟩;by_cases hj:j < l.length
 ·rw [nB hj] at hy;rw [nB (by rw [←h.1];exact hj)] at hu;exact h.2 j y u hy hu
 ·rw [nC (by omega)] at hy;rw [nC (by rw [←h.1];omega),←h.1] at hu;exact h'.2 _ y u hy hu
theorem X7 {n fuel:Nat} (ih:∀(t:TypeId) (cs:List Value) (x:DataW H×List MemPlace),lV P n t=true→DataW.trod enc P W 0 (fun _=>true) true fuel t cs=some x→∃l,gG P n t x.1=some l∧tG W L l cs∧cs.length=P.cellsOf t) (cs:List Value) :
  ∀(fl:List Field) (o e:Nat) {xs:List (DataW H×List MemPlace)},Gq P o fl=some e→(∀f∈fl,lV P n f.type=true)→cs.length=e→(fl.mapM fun f=>DataW.trod enc P W 0 (fun _=>true) true fuel f.type ((cs.drop f.offset).take (P.cellsOf f.type)))=some xs→
   ∃l,w4 P n fl (xs.map (·.1))=some l∧tG W L l (cs.drop o)
 | [],o,e,xs,h,_,hl,hx=>by
  simp only [Gq,ai] at h;have:xs=[]:=by simpa using hx.symm
  subst this;refine ⟨[],by simp [w4],?_,fun j y u hy=>by simp at hy⟩;simp;omega
 | f::fl,o,e,xs,h,hs,hl,hx=>by
  simp only [Gq] at h;split at h
  ·rename_i ho;rw [mL] at hx;obtain ⟨y,h1,h2⟩:=bind_some hx;obtain ⟨t,h3,h4⟩:=bind_some h2;cases h4;obtain ⟨l1,k1,k2,k3⟩:=ih _ _ _ (hs f (jR ..)) h1;obtain ⟨l2,k4,k5⟩:=X7 ih cs fl _ e h (fun g hg=>hs g (kD _ hg)) hl h3;refine ⟨l1++l2,by simp [w4,k1,k4],?_⟩;have:=k2.app k5;rw [ho,←UO,List.take_append_drop] at this;exact this
  ·cases h
theorem aqe (hL:∀B cur e fz,W.heap[B]? = some (.cells cur e fz)→L B=some .bh):∀(n:Nat) (fuel:Nat) (t:TypeId) (cs:List Value) (x:DataW H×List MemPlace),lV P n t=true→
  DataW.trod enc P W 0 (fun _=>true) true fuel t cs=some x→∃l,gG P n t x.1=some l∧tG W L l cs∧cs.length=P.cellsOf t:=by
 intro n;induction n with
 | zero=>intro fuel t cs x hs;simp [lV] at hs
 | succ n ih=>
  intro fuel t cs x hs h;simp only [lV] at hs;have one:∀{y:D} {u:Value},fM W L y u→tG W L [y] [u]:=by
   intro y u hr;refine ⟨rfl,fun j y' u' h1 h2=>?_⟩;cases j with
   | zero=>simp at h1 h2;subst h1;subst h2;exact hr
   | succ j=>simp at h1
  cases fuel with
  | zero=>simp [DataW.trod] at h
  | succ fuel=>
  split at hs
  ·rename_i hu;simp only [eU] at hs;rw [DataW.trod_step] at h;unfold DataW.trodStep at h;rw [hu] at h;have:∃b,cs=[.bool b]∧x=(.lit (.bool b),[]):=by
    rcases cs with _ | ⟨c,_ | ⟨c2,t⟩⟩
    ·simp at h
    ·cases c<;>simp at h;exact ⟨_,rfl,h.symm⟩
    ·simp at h
   obtain ⟨b,rfl,rfl⟩:=this;exact ⟨[.bool b],by simp [gG,hu],one .bool,by simp [hs]⟩
  ·rename_i k hu;simp only [eU] at hs;rw [DataW.trod_step] at h;unfold DataW.trodStep at h;rw [hu] at h;have:∃z,cs=[.int k z]∧x=(.lit (.int k z),[]):=by
    rcases cs with _ | ⟨c,_ | ⟨c2,t⟩⟩
    ·simp at h
    ·cases c<;>simp at h;obtain ⟨⟨rfl,_⟩,h⟩:=h;exact ⟨_,rfl,h.symm⟩
    ·simp at h
   obtain ⟨z,rfl,rfl⟩:=this;exact ⟨[.int k z],by simp [gG,hu],one .int,by simp [hs]⟩
  ·rename_i hu;simp only [eU] at hs;rw [DataW.trod_step] at h;unfold DataW.trodStep at h;rw [hu] at h;have:∃z:ByteArray,cs=[.string z]∧x=(.lit (.string z.data.toList),[]):=by
    rcases cs with _ | ⟨c,_ | ⟨c2,t⟩⟩
    ·simp at h
    ·cases c<;>simp at h;exact ⟨_,rfl,h.2.symm⟩
    ·simp at h
   obtain ⟨z,rfl,rfl⟩:=this;refine ⟨[.str z.data.toList],by simp [gG,hu],one ?_,by simp [hs]⟩;exact .str
  ·rename_i e hu;simp only [bK,fA,eU] at hs;obtain ⟨⟨dF,EY⟩,mo⟩:=hs;rcases Go.Deep.open_slice hu h with ⟨rfl,rfl⟩ | ⟨a,len,cap,m,k,Dd,Pl,rfl,hb,hl,hm,Fm,rfl,hx⟩
   ·exact ⟨[.sl (.im true) (P.cellsOf e) []],by simp [gG,hu],one .nil,by simp [dF]⟩
   ·have Fk:m=cap:=by simpa using Fm
    subst Fk;have tW:∀i,i < m→∃ey l,W.cells? 0 (a.add (i * P.cellsOf e)) (P.cellsOf e)=some ey∧gG P n e (Dd i)=some l∧tG W L l ey∧ey.length=P.cellsOf e:=by
     intro i hi;obtain ⟨ey,h1,h2⟩:=hx i hi;obtain ⟨l,k1,k2,k3⟩:=ih k e ey _ mo h2;exact ⟨ey,l,h1,k1,k2,k3⟩
    let R:Nat→List D:=fun i=>(gG P n e (Dd i)).getD []
    have vA:(((List.range len).map Dd).mapM (gG P n e))=some ((List.range len).map R):=by
     have:∀(l:List Nat),(∀i∈l,i < m)→((l.map Dd).mapM (gG P n e))=some (l.map R):=by
      intro l;induction l with
      | nil=>intro _;rfl
      | cons i l ihl=>
       intro hi;obtain ⟨_,r,_,k1,_⟩:=tW i (hi i (jR ..));rw [gl,mL,k1];show (List.mapM (gG P n e) (l.map Dd) >>= fun bs=>pure (r::bs))=_;rw [ihl (fun i h=>hi i (kD _ h))];simp [R,k1]
     exact this _ (fun i hi=>by have:=tD.1 hi;omega)
    refine ⟨[.sl (.im false) (P.cellsOf e) ((List.range len).map R)],by simp [gG,hu,vA],one ?_,by simp [dF]⟩;by_cases nL:len=0
    ·subst nL;exact .mD
    ·
     obtain ⟨gU,l0,h1,_,_,_⟩:=tW 0 (by omega);obtain ⟨g1,g2⟩:=W4 h1;have hc:=g2 0 EY;obtain ⟨u0,sJ⟩:∃u,gU[0]? = some u:=⟨gU[0]'(by rw [g1];exact EY),kf _⟩
     rw [sJ] at hc;obtain ⟨ue,cur,te,fz,hB,_⟩:=W0 hc;have ha0:((a.add (0 * P.cellsOf e)).add 0)=a:=by simp [Addr.add]
     rw [ha0] at ue hB;obtain ⟨B,o,sp⟩:=a;simp only at ue hB;subst ue;have tX:∀i c,i < m→c < P.cellsOf e→∃ey l,gG P n e (Dd i)=some l∧tG W L l ey∧ey.length=P.cellsOf e∧cur[o+i * P.cellsOf e+c]? = ey[c]?:=by
      intro i c hi c7;obtain ⟨ey,l,q1,q2,q3,q4⟩:=tW i hi;refine ⟨ey,l,q2,q3,q4,?_⟩;have q5:=(W4 q1).2 c c7;obtain ⟨u,jt⟩:∃u,ey[c]? = some u:=⟨ey[c]'(by rw [q4];exact c7),kf _⟩
      rw [jt] at q5 ⊢;obtain ⟨_,dQ,te',tR,r1,r2⟩:=W0 q5;rw [oj,oj] at r1 r2;rw [hB] at r1;cases r1;exact r2
     have fF:∀i c y,cellOf ((List.range len).map R) i c=some y→i < m∧c < P.cellsOf e∧∃u,cur[o+i * P.cellsOf e+c]? = some u∧fM W L y u:=by
      intro i c y hy;obtain ⟨r,hr,q7⟩:=kJ.1 hy;rw [bS] at hr;obtain ⟨i',tY,rfl⟩:=bG hr;have kN:i < len:=by
       have:=(cw.1 tY).1;simpa using this
      have hii:i'=i:=by simp [kN] at tY;exact tY.symm
      subst hii;obtain ⟨cs1,l1,t1,t2,t3,t4⟩:=tW i' (by omega);have hR:R i'=l1:=by simp [R,t2]
      rw [hR] at q7;have c7:c < P.cellsOf e:=by rw [←t4,←t3.1];exact (cw.1 q7).1
      obtain ⟨Bo,l2,s1,s2,s3,s4⟩:=tX i' c (by omega) c7;rw [t2] at s1;cases s1;obtain ⟨u,jt⟩:∃u,Bo[c]? = some u:=⟨Bo[c]'(by rw [s3];exact c7),kf _⟩
      exact ⟨by omega,c7,u,s4.trans jt,s2.2 c y u q7 jt⟩
     have gB:((List.range len).map R).length=len:=by simp
     have:=@fM.pl W L (P.cellsOf e) ((List.range len).map R) B o m cur te fz (fun i c=>cur.getD (o+i * P.cellsOf e+c) undef) (by intro h;rw [h] at gB;simp at gB;omega) EY (by rw [gB];exact hl) (hL B cur te fz hB) hB ?_ ?_ ?_
     ·rw [gB] at this;exact this
     ·intro r hr;obtain ⟨i,hi,rfl⟩:=iz.1 hr;have kN:=tD.1 hi;obtain ⟨cs1,l1,t1,t2,t3,t4⟩:=tW i (by omega);have hR:R i=l1:=by simp [R,t2]
      rw [hR,t3.1,t4]
     ·intro i c y hy;obtain ⟨_,_,u,h1,_⟩:=fF i c y hy;rw [h1,iw,h1];rfl
     ·intro i c y hy;obtain ⟨_,_,u,h1,h2⟩:=fF i c y hy;rw [iw,h1];exact h2
  ·rename_i fs hu;simp only [bK,lI,eU] at hs;rw [DataW.trod_step] at h;unfold DataW.trodStep at h;simp only [hu] at h;split at h
   ·rename_i hl;obtain ⟨xs,h1,h2⟩:=bG h;subst h2;obtain ⟨l,k1,k2⟩:=X7 (fun t cs x=>ih fuel t cs x) cs fs.toList 0 _ hs.2 hs.1 hl h1;exact ⟨l,by simp [gG,hu,k1],by simpa using k2,hl⟩
   ·cases h
  ·cases hs
end
end
section
def tK (P:Program) (t:TypeId) (l:List D):V:=
 match P.underlying t with
 | some (.struct _)=>.agg (l.map .d)
 | _=>.one (.d (l.headD .dead))
def yL {H:Type} (P:Program) (n:Nat):List TypeId→List (DataW H)→Option (List V)
 | [],[]=>some []
 | t::ts,d::ds=>(gG P n t d).bind fun l=>(yL P n ts ds).map (tK P t l :: ·)
 | _,_=>none
def td (W:World):aw:=fun B=>match W.heap[B]? with | some (.cells ..)=>some .bh | _=>none
section
variable {H:Type} {enc:TypeId×Value→H} {P:Program} {W W':World} {nm:FuncId→Option Nat} {G:Nat→Option Obj} {Cl:bX}
theorem adP {B:Nat} {cur:Array Value} {e:TypeId} {fz:Nat×Nat} (h:W.heap[B]? = some (.cells cur e fz)):td W B=some .bh:=by simp [td,h]
theorem DF {B:Nat} {l:bO} (h:td W B=some l):l = .bh∧∃cur e fz,W.heap[B]? = some (.cells cur e fz):=by
 unfold td at h;split at h
 ·rename_i c e fz hc;simp only [ai] at h;exact ⟨h.symm,c,e,fz,hc⟩
 ·cases h
theorem ae0 {n base:Nat} {t:TypeId} {v:Value} {d:DataW H} {ps:List MemPlace} (cm:Value.okWide P W .any base t v) (hs:lV P n t=true) (ht:DataW.Trod enc P W 0 (fun _=>true) true t v d ps) :
  ∃l,gG P n t d=some l∧∀γ k,bD nm W (td W) γ k (tK P t l) v:=by
 obtain ⟨fuel,h⟩:=ht;obtain ⟨l,h1,h2,h3⟩:=aqe (L:=td W) (fun B cur e fz h=>adP h) n fuel t _ _ hs h;refine ⟨l,h1,fun γ k=>?_⟩;have single:P.cellsOf t=1→(∀cs,v≠.agg cs)→(∀fs,P.underlying t≠some (.struct fs))→bD nm W (td W) γ k (tK P t l) v:=by
  intro hc hna Ft;have hv:v.cells = #[v]:=by cases v<;>first | rfl | exact absurd rfl (hna _)
  have PO:tK P t l = .one (.d (l.headD .dead)):=by
   unfold tK;split
   ·rename_i hx;exact absurd hx (Ft _)
   ·rfl
  rw [PO];have hl:l.length=1:=by rw [h2.1,h3,hc]
  obtain ⟨y,rfl⟩:=Nc.1 hl;exact .one (.d (.plain (h2.2 0 y v rfl (by rw [hv];rfl))))
 cases n with
 | zero=>simp [lV] at hs
 | succ n=>
  simp only [lV] at hs;split at hs
  ·rename_i hu;exact single (by simpa using hs) (by rintro cs rfl;simp [Value.okWide,hu,Cell.okWide,Cell.ok] at cm) (by simp [hu])
  ·rename_i hu;exact single (by simpa using hs) (by rintro cs rfl;simp [Value.okWide,hu,Cell.okWide,Cell.ok] at cm) (by simp [hu])
  ·rename_i hu;exact single (by simpa using hs) (by rintro cs rfl;simp [Value.okWide,hu,Cell.okWide,Cell.ok] at cm) (by simp [hu])
  ·rename_i e hu;simp only [bK,eU] at hs;exact single hs.1.1 (by rintro cs rfl;simp [Value.okWide,hu,Cell.okWide,Cell.ok] at cm) (by simp [hu])
  ·rename_i fs hu;unfold Value.okWide at cm;rw [hu] at cm;obtain ⟨cs,rfl,_,_⟩:=cm;have PO:tK P t l = .agg (l.map .d):=by unfold tK;rw [hu]
   rw [PO];have hc:(Value.agg cs).cells.toList=cs.toList:=rfl;rw [hc] at h2;refine .agg (by rw [cy,h2.1,UF]) (fun j c u hj jt=>?_);rw [bS] at hj;obtain ⟨y,hy,rfl⟩:=bG hj;exact .d (.plain (h2.2 j y u hy (by simpa using jt)))
  ·cases hs
theorem NM {n base:Nat}:∀{ts:List TypeId} {vs:List Value} {ds:List (DataW H)} {ps:List MemPlace},DataW.TrodAll enc P W 0 (fun _=>true) true ts vs ds ps→(∀t∈ts,lV P n t=true)→(∀(j:Nat) t v,ts[j]? = some t→vs[j]? = some v→Value.okWide P W .any base t v)→
  ∃l,yL P n ts ds=some l∧l.length=vs.length∧∀(j:Nat) x v,l[j]? = some x→vs[j]? = some v→∀γ k,bD nm W (td W) γ k x v
 | [],vs,ds,ps,h,_,_=>by
  cases vs with
  | nil=>
   cases ds with
   | nil=>exact ⟨[],rfl,rfl,fun j x v h=>by simp at h⟩
   | cons=>simp [DataW.TrodAll] at h
  | cons=>simp [DataW.TrodAll] at h
 | t::ts,vs,ds,ps,h,hs,hv=>by
  cases vs with
  | nil=>simp [DataW.TrodAll] at h
  | cons v vs=>
   cases ds with
   | nil=>simp [DataW.TrodAll] at h
   | cons d ds=>
    obtain ⟨p,q,h1,h2,rfl⟩:=h;obtain ⟨l,k1,k2⟩:=ae0 (nm:=nm) (hv 0 t v rfl rfl) (hs t (jR ..)) h1;obtain ⟨ls,k3,k4,k5⟩:=NM h2 (fun t ht=>hs t (kD _ ht)) (fun j t v hj gI=>hv (j+1) t v (by simpa using hj) (by simpa using gI));refine ⟨tK P t l::ls,by simp [yL,k1,k3],by simp [k4],?_⟩;intro j x u hj hu;cases j with
    | zero=>simp at hj hu;subst hj;subst hu;exact k2
    | succ j=>exact k5 j x u (by simpa using hj) (by simpa using hu)
theorem ap7 {l:List V} {args:Array Value} (hl:l.length=args.size) (h:∀(j:Nat) x v,l[j]? = some x→args[j]? = some v→∀γ k,bD nm W (td W) γ k x v) :
  Rel nm l.length (ga 0 l++dk 0 []) ⟨args,[]⟩ W (td W):=by
 have hE:∀k,(∀j,k≠.s j)→(ga 0 l++dk 0 []:St).E k=V.dead:=by
  intro k hk;have:(ga 0 l++dk 0 []:St).E k=(dk 0 []:St).E k:=by
   unfold St.E;rw [pf];cases k<;>first | rfl | exact absurd rfl (hk _)
  rw [this,pj];cases k with
  | r x=>cases x<;>rfl
  | b x c=>cases x<;>rfl
  | _=>rfl
 refine ⟨hl.symm,rfl,?_,?_,?_,?_,?_,?_,?_,?_⟩
 ·intro i;have hs:(ga 0 l++dk 0 []:St).E (.s i)=if i < l.length then l.getD i V.dead else V.dead:=by
   unfold St.E;rw [pf];simp only [yE,lh,db,DW];split
   ·rfl
   ·rw [ph];rfl
  rw [hs];split
  ·rename_i hi;have vo:i < args.size:=by omega
   have:=h i (l.getD i V.dead) args[i] (getD_some hi) (by simp [vo]) (ga 0 l++dk 0 []:St).γ (.s i);simpa [Array.getD,vo] using this
  ·exact .one .dead
 ·intro r c x hx gg;rw [hE _ (by intro j h;cases h)] at hx;simp only [V.dead,V.one.injEq] at hx;exact absurd hx.symm gg
 ·intro r c;rw [hE _ (by intro j h;cases h)];exact ⟨_,rfl⟩
 ·intro r c _;rw [hE _ (by intro j h;cases h)];rfl
 ·intro r _ hr;rw [hE _ (by intro j h;cases h)] at hr;simp [V.dead,cj] at hr
 ·intro B l hB;obtain ⟨_,_,_,h⟩:=(DF hB).2;exact (lH.1 h).1
 ·intro B B' pl o o' hB;have:=(DF hB).1;cases this
 ·intro B B' r o o' hB;have:=(DF hB).1;cases this
structure Left (W W':World):Prop where
 os:W'.os=W.os
 output:W'.output=W.output
 heap:∀B,B < W.heap.size→W'.heap[B]? = W.heap[B]?
theorem ant (hO:D6 P nm G Cl) (EP:∀B c,G B=some c→W.heap[B]? = some c∧∃cur e fz,c = .cells cur e fz) {cF:FuncId} {f0:Nat} {g:Func} {c:Code} (jr:nm cF=some f0) (hf:P.funcs[cF]? = some g) (mj:(g.name == "runtime.NumGoroutine")=false) (hb:g.body=some c)
  {n base:Nat} {ts:List TypeId} {args:Array Value} {ds:List (DataW H)} {ps:List MemPlace} (hA:DataW.TrodAll enc P W 0 (fun _=>true) true ts args.toList ds ps)
  (hs:∀t∈ts,lV P n t=true) (cm:∀(j:Nat) t v,ts[j]? = some t→args[j]? = some v→Value.okWide P W .any base t v)
  {b:Bool} (heq:∀l,yL P n ts ds=some l→∃out,Cl f0 l []=some (.one (.d (.bool b)),out)) :
  Calls P cF args W fun e W'=>e = .returned (.bool b)∧Left W W':=by
 obtain ⟨l,h1,h2,h3⟩:=NM (nm:=nm) hA hs (fun j t v hj hv=>cm j t v hj (by simpa using hv));obtain ⟨out,h4⟩:=heq l h1;have R:=ap7 (W:=W) (nm:=nm) (l:=l) (args:=args) (by rw [h2];simp) (fun j x v hj hv=>h3 j x v hj (by simpa using hv));have hF:=hO h4 jr R (fun B q o hB=>by have:=(DF hB).1;cases this) (fun B c hB=>by obtain ⟨h1,cur,e,fz,rfl⟩:=EP B c hB;exact ⟨adP h1,h1⟩) (fun B i o hB=>by have:=(DF hB).1;cases this);have Fq:¬ g.name = "runtime.NumGoroutine" := by simpa using mj
 have iT:(callFunc cF args).run P W = .ok (.enter cF args) W:=by simp [callFunc,hf,Fq,hb]
 unfold jT at hF;rw [iT] at hF;refine Calls.mono hF ?_;rintro e W' ⟨v,rfl,L',hm,_,hv⟩;have Ck:v = .bool b:=hv.cL.r7;subst Ck;refine ⟨rfl,hm.os,hm.output,fun B hB=>?_⟩;cases hL:td W B with
 | none=>exact (hm.none B hB hL).2
 | some l=>
  obtain ⟨rfl,_⟩:=DF hL;exact (hm.bh B hL).2
theorem adT {n:Nat} {rE:Nat→Bool} (hold:∀B,B < W.heap.size→W'.heap[B]? = W.heap[B]?) (ue:∀b,b < W.heap.size→rE b=true):∀{ts:List TypeId} {vs:List Value} {ds:List (DataW H)} {ps:List MemPlace},
  (∀t∈ts,lV P n t=true)→DataW.TrodAll enc P W 0 (fun _=>true) true ts vs ds ps→DataW.TrodAll enc P W' 0 rE true ts vs ds ps
 | [],vs,ds,ps,_,h=>by
  cases vs<;>cases ds<;>simp_all [DataW.TrodAll]
 | t::ts,vs,ds,ps,hs,h=>by
  cases vs with
  | nil=>simp [DataW.TrodAll] at h
  | cons v vs=>
   cases ds with
   | nil=>simp [DataW.TrodAll] at h
   | cons d ds=>
    obtain ⟨p,q,⟨fuel,h1⟩,h2,rfl⟩:=h;obtain ⟨m,h3⟩:=aqf hold ue n t fuel _ _ (hs t (jR ..)) h1;exact ⟨p,q,⟨m,h3⟩,adT hold ue (fun t ht=>hs t (kD _ ht)) h2,rfl⟩
theorem anv {f:Func} {s:ChangeSpec} {apart fresh handsOn again:Bool} {args:Array Value} {ds gs:List (DataW H)} {before:List MemPlace} {n:Nat} {b:Bool} {tb:TypeId}
  (hW:DataW.Whole enc P f.params.toList s.vars apart W args.toList ds gs before) (QT:s.vars=[]) (hs:∀t∈f.params.toList,lV P n t=true)
  (hr:f.resultTypes = #[tb]) (ZA:P.underlying tb=some .bool) (QI:(s.fn H (ds++gs)).results=[.lit (.bool b)]) (sw:(s.fn H (ds++gs)).args=ds) (hgv:(s.fn H (ds++gs)).vars=[])
  (hl:Left W W'):s.post enc P f apart fresh handsOn again W args (.bool b) W':=by
 have Jb:=hW;obtain ⟨p,q,hA,hV,rfl,hz,hn⟩:=hW;rw [QT] at hV;have hq:q=[]∧gs=[]:=by
  cases gs with
  | nil=>exact ⟨by simpa [DataW.TrodVars] using hV,rfl⟩
  | cons=>simp [DataW.TrodVars] at hV
 obtain ⟨rfl,rfl⟩:=hq;have af:∀p'∈p++[],p'.block < W.heap.size:=fun p' hp=>Jb.lt p' hp
 have ZW:=fun (rE:Nat→Bool) (ue:∀b,b < W.heap.size→rE b=true)=>adT (rE:=rE) hl.heap ue hs hA
 have acy:∀(bb:Nat) (sp:Nat→Bool) (hd:Bool),DataW.TrodAll enc P W' bb sp hd f.resultTypes.toList ((Value.bool b).resultList f.resultTypes.size) [.lit (.bool b)] []:=by
  intro bb sp hd;rw [hr];exact ⟨[],[],⟨1,by simp [DataW.trod,Value.cells,ZA]⟩,rfl,rfl⟩
 have iH:∀sp,DataW.TrodVars enc P W' sp s.vars (s.fn H (ds++[])).vars []:=by
  intro sp;rw [QT,hgv];rfl
 refine ⟨ds,[],p++[],[],p,[],Jb,?_,?_,iH _,?_,fun _=>⟨?_,?_⟩⟩
 ·rw [QI];exact acy _ _ _
 ·rw [sw];exact ZW _ (fun b hb=>by simpa using hb)
 ·refine ⟨hl.os,hl.output,fun i hi=>?_⟩;rw [hl.heap i hi];split
  ·rename_i h1 h2;rw [h1] at h2;cases h2;exact ⟨rfl,rfl,rfl,fun _ _=>rfl⟩
  ·rename_i h1 h2;rw [h1] at h2;cases h2;exact .inr ⟨rfl,rfl⟩
  ·rfl
 ·intro j t r h1 h2;rw [hr] at h1 h2;cases j with
  | zero=>
   simp [Value.resultList] at h1 h2;subst h1;subst h2;simp [Value.okWide,ZA,Cell.okWide,Cell.ok]
  | succ j=>simp [Value.resultList] at h2
 ·have ai5:=Go.ChangeShapes.trodAll_append (ZW (fun _=>true) (fun _ _=>rfl)) (acy 0 (fun _=>true) true);refine ⟨_,[],_,⟨_,[],ai5,(by rw [QT];rfl),rfl,?_,?_⟩,?_⟩
  ·intro b' off hp;have B7:MemPlace.cell b' off∈p++[]:=by simpa using hp
   have cU:=hz b' off B7;have hb:=af _ B7;have sx:b' < W.heap.size:=hb;unfold World.frozen? at cU ⊢;simp only at cU ⊢;rw [hl.heap b' sx];exact cU
  ·intro ha;have:=hn ha;simpa using this
  ·intro p' hp _;simpa using hp
end
end
section
inductive TS where
 | int (k:IntKind)
 | bool
 | str
 | sl (sz:Nat) (l:List TS)
mutual
def xR:TS→D→Prop
 | .int k,.int k' n=>k'=k∧(Lit.int k n).wf=true
 | .bool,.bool _=>True
 | .str,.str _=>True
 | .sl sz ts,.sl (.im b) cp rows=>cp=sz∧(b=true→rows=[])∧∀r∈rows,lz ts r
 | _,_=>False
def lz:List TS→List D→Prop
 | [],[]=>True
 | t::ts,x::r=>xR t x∧lz ts r
 | _,_=>False
end
theorem abm:∀{ts us:List TS} {r q:List D},lz ts r→lz us q→lz (ts++us) (r++q)
 | [],us,[],q,_,h=>h
 | t::ts,us,x::r,q,h,h'=>by
  simp only [lz,qJ] at h ⊢;exact ⟨h.1,abm h.2 h'⟩
 | [],_,_::_,_,h,_=>absurd h (by simp [lz])
 | _::_,_,[],_,h,_=>absurd h (by simp [lz])
def Hm (f:TypeId→Option (List TS)):List Field→Option (List TS)
 | []=>some []
 | x::t=>(f x.type).bind fun a=>(Hm f t).map (a ++ ·)
def AF (P:Program):Nat→TypeId→Option (List TS)
 | 0,_=>none
 | n+1,t=>match P.underlying t with
  | some .bool=>some [.bool]
  | some (.int k)=>some [.int k]
  | some .string=>some [.str]
  | some (.slice e)=>(AF P n e).map fun l=>[.sl (P.cellsOf e) l]
  | some (.struct fs)=>Hm (AF P n) fs.toList
  | _=>none
section
variable {H:Type} {enc:TypeId×Value→H} {P:Program} {W:World}
theorem abt {n fuel:Nat} {cs:List Value} (ih:∀(t:TypeId) (cs:List Value) (x:DataW H×List MemPlace) l ts,DataW.trod enc P W 0 (fun _=>true) true fuel t cs=some x→gG P n t x.1=some l→AF P n t=some ts→lz ts l) :
  ∀(fl:List Field) {xs:List (DataW H×List MemPlace)} {l:List D} {ts:List TS},(fl.mapM fun f=>DataW.trod enc P W 0 (fun _=>true) true fuel f.type ((cs.drop f.offset).take (P.cellsOf f.type)))=some xs→
   w4 P n fl (xs.map (·.1))=some l→Hm (AF P n) fl=some ts→lz ts l
 | [],xs,l,ts,hx,hl,ht=>by
  have:xs=[]:=by simpa using hx.symm
  subst this;simp [w4] at hl;simp [Hm] at ht;subst hl;subst ht;trivial
 | f::fl,xs,l,ts,hx,hl,ht=>by
  rw [mL] at hx;obtain ⟨y,h1,h2⟩:=bind_some hx;obtain ⟨t,h3,h4⟩:=bind_some h2;cases h4;simp only [gl,w4] at hl;obtain ⟨l1,k1,k2⟩:=bind_some hl;obtain ⟨l2,k3,rfl⟩:=bG k2;simp only [Hm] at ht;obtain ⟨t1,j1,j2⟩:=bind_some ht;obtain ⟨t2,j3,rfl⟩:=bG j2;exact abm (ih _ _ _ _ _ h1 k1 j1) (abt ih fl h3 k3 j3)
theorem mapM_mem {α β:Type} {f:α→Option β}:∀{l:List α} {r:List β},l.mapM f=some r→∀y∈r,∃x∈l,f x=some y
 | [],r,h,y,hy=>by
  have:r=[]:=by simpa using h.symm
  subst this;cases hy
 | x::t,r,h,y,hy=>by
  rw [mL] at h;obtain ⟨a,h1,h2⟩:=bind_some h;obtain ⟨b,h3,h4⟩:=bind_some h2;cases h4;rcases gT.1 hy with rfl | hy
  ·exact ⟨x,jR ..,h1⟩
  ·obtain ⟨z,hz,hf⟩:=mapM_mem h3 y hy;exact ⟨z,kD _ hz,hf⟩
theorem aod:∀(n fuel:Nat) (t:TypeId) (cs:List Value) (x:DataW H×List MemPlace) (l:List D) (ts:List TS),
  DataW.trod enc P W 0 (fun _=>true) true fuel t cs=some x→gG P n t x.1=some l→AF P n t=some ts→lz ts l:=by
 intro n;induction n with
 | zero=>intro fuel t cs x l ts _ h;simp [gG] at h
 | succ n ih=>
  intro fuel t cs x l ts h hd ht;cases fuel with
  | zero=>simp [DataW.trod] at h
  | succ fuel=>
  simp only [AF] at ht;split at ht
  ·rename_i hu;cases ht;rw [DataW.trod_step] at h;unfold DataW.trodStep at h;rw [hu] at h;have:∃b,cs=[.bool b]∧x=(.lit (.bool b),[]):=by
    rcases cs with _ | ⟨c,_ | ⟨c2,t⟩⟩
    ·simp at h
    ·cases c<;>simp at h;exact ⟨_,rfl,h.symm⟩
    ·simp at h
   obtain ⟨b,rfl,rfl⟩:=this;simp [gG,hu] at hd;subst hd;exact ⟨trivial,trivial⟩
  ·rename_i k hu;cases ht;rw [DataW.trod_step] at h;unfold DataW.trodStep at h;rw [hu] at h;have:∃z,cs=[.int k z]∧(Lit.int k z).wf=true∧x=(.lit (.int k z),[]):=by
    rcases cs with _ | ⟨c,_ | ⟨c2,t⟩⟩
    ·simp at h
    ·cases c<;>simp at h;obtain ⟨⟨rfl,hw⟩,h⟩:=h;exact ⟨_,rfl,hw,h.symm⟩
    ·simp at h
   obtain ⟨z,rfl,hw,rfl⟩:=this;simp [gG,hu] at hd;subst hd;exact ⟨⟨rfl,hw⟩,trivial⟩
  ·rename_i hu;cases ht;rw [DataW.trod_step] at h;unfold DataW.trodStep at h;rw [hu] at h;have:∃z:ByteArray,cs=[.string z]∧x=(.lit (.string z.data.toList),[]):=by
    rcases cs with _ | ⟨c,_ | ⟨c2,t⟩⟩
    ·simp at h
    ·cases c<;>simp at h;exact ⟨_,rfl,h.2.symm⟩
    ·simp at h
   obtain ⟨z,rfl,rfl⟩:=this;simp [gG,hu] at hd;subst hd;exact ⟨trivial,trivial⟩
  ·rename_i e hu;obtain ⟨te,he,rfl⟩:=bG ht;rcases Go.Deep.open_slice hu h with ⟨rfl,rfl⟩ | ⟨a,len,cap,m,k,Dd,Pl,rfl,hb,hl,hm,Fm,rfl,hx⟩
   ·simp [gG,hu] at hd;subst hd;exact ⟨⟨rfl,fun _=>rfl,fun r hr=>by cases hr⟩,trivial⟩
   ·have Fk:m=cap:=by simpa using Fm
    subst Fk;unfold gG at hd;rw [hu] at hd;simp only at hd;obtain ⟨rows,h1,rfl⟩:=bG hd;refine ⟨⟨rfl,fun hb=>(by cases hb),fun r hr=>?_⟩,trivial⟩;obtain ⟨d,dq,hf⟩:=mapM_mem h1 r hr;obtain ⟨i,hi,rfl⟩:=iz.1 dq;have kN:=tD.1 hi;obtain ⟨ey,_,h2⟩:=hx i (by omega);exact ih k e ey _ _ _ h2 hf he
  ·rename_i fs hu;rw [DataW.trod_step] at h;unfold DataW.trodStep at h;rw [hu] at h;simp only at h;split at h
   ·obtain ⟨xs,h1,rfl⟩:=bG h;unfold gG at hd;rw [hu] at hd;simp only at hd;exact abt (fun t cs x l ts h1 h2 h3=>ih fuel t cs x l ts h1 h2 h3) fs.toList h1 hd ht
   ·cases h
  ·cases ht
def LY:List (List TS)→List (List D)→Prop
 | [],[]=>True
 | ts::t,r::l=>lz ts r∧LY t l
 | _,_=>False
def Ed (P:Program):List TypeId→List (List D)→List V
 | t::ts,r::rs=>tK P t r::Ed P ts rs
 | _,_=>[]
def DI (P:Program) (n:Nat):List TypeId→Option (List (List TS))
 | []=>some []
 | t::ts=>(AF P n t).bind fun a=>(DI P n ts).map (a :: ·)
def yW {H:Type} (P:Program) (n:Nat):List TypeId→List (DataW H)→Option (List (List D))
 | [],[]=>some []
 | t::ts,d::ds=>(gG P n t d).bind fun l=>(yW P n ts ds).map (l :: ·)
 | _,_=>none
theorem abr {n:Nat}:∀{ts:List TypeId} {vs:List Value} {ds:List (DataW H)} {ps:List MemPlace} {l:List V} {tt:List (List TS)},DataW.TrodAll enc P W 0 (fun _=>true) true ts vs ds ps→yL P n ts ds=some l→DI P n ts=some tt→
  ∃rs,yW P n ts ds=some rs∧LY tt rs∧l=Ed P ts rs
 | [],vs,ds,ps,l,tt,h,hl,ht=>by
  cases vs<;>cases ds<;>simp_all [DataW.TrodAll,yL,DI];subst hl;subst ht;exact ⟨[],rfl,trivial,rfl⟩
 | t::ts,vs,ds,ps,l,tt,h,hl,ht=>by
  cases vs with
  | nil=>simp [DataW.TrodAll] at h
  | cons v vs=>
   cases ds with
   | nil=>simp [DataW.TrodAll] at h
   | cons d ds=>
    obtain ⟨p,q,⟨fuel,h1⟩,h2,rfl⟩:=h;simp only [yL] at hl;obtain ⟨r,k1,k2⟩:=bind_some hl;obtain ⟨l2,k3,rfl⟩:=bG k2;simp only [DI] at ht;obtain ⟨t1,j1,j2⟩:=bind_some ht;obtain ⟨t2,j3,rfl⟩:=bG j2;have ho:=aod n fuel t _ _ _ _ h1 k1 j1;obtain ⟨rs,g1,g2,rfl⟩:=abr h2 k3 j3;exact ⟨r::rs,by simp [yW,k1,g1],⟨ho,g2⟩,rfl⟩
theorem anu {nm:FuncId→Option Nat} {G:Nat→Option Obj} {Cl:Nat→bX} (hO:∀N,D6 P nm G (Cl N)) (EP:∀B c,G B=some c→W.heap[B]? = some c∧∃cur e fz,c = .cells cur e fz) {cF:FuncId} {f0:Nat} {g:Func} {c:Code} (jr:nm cF=some f0) (hf:P.funcs[cF]? = some g) (mj:(g.name == "runtime.NumGoroutine")=false) (hb:g.body=some c)
  {n base:Nat} {ts:List TypeId} {tt:List (List TS)} {args:Array Value} {ds:List (DataW H)} {ps:List MemPlace} (hA:DataW.TrodAll enc P W 0 (fun _=>true) true ts args.toList ds ps)
  (hs:∀t∈ts,lV P n t=true) (FD:DI P n ts=some tt) (cm:∀(j:Nat) t v,ts[j]? = some t→args[j]? = some v→Value.okWide P W .any base t v)
  {b:Bool} (heq:∀rs,yW P n ts ds=some rs→LY tt rs→∃N out,Cl N f0 (Ed P ts rs) []=some (.one (.d (.bool b)),out)) :
  Calls P cF args W fun e W'=>e = .returned (.bool b)∧Left W W':=by
 obtain ⟨l,h1,_⟩:=NM (nm:=nm) hA hs (fun j t v hj hv=>cm j t v hj (by simpa using hv));obtain ⟨rs,h2,h3,rfl⟩:=abr hA h1 FD;obtain ⟨N,out,h4⟩:=heq rs h2 h3;refine ant (hO N) EP jr hf mj hb hA hs cm (fun l' mf=>?_);rw [h1] at mf;cases mf;exact ⟨out,h4⟩
end
end
end Go.ax
