/- A part of the proof. -/
import Derived.Test.YtfmpdgeiodnnfaaGreatDoorN9
set_option linter.all false
set_option maxRecDepth 100000
set_option maxHeartbeats 2000000
namespace Go.Proofs.YtfmpdgeiodnnfaaGreatDoor
section
open Go Go.ax PT
def wB (t:TR):Prop:=-9223372036854775808<=t.n/\t.n<=9223372036854775807
def aqd (k:Int):(jf k=0/\(k=0\/k=1\/k=2\/k=3\/k=4\/k=5))\/(jf k=1/\(k=15\/k=16))\/(jf k=2/\(yr k=true\/k=17\/k=18\/k=19))\/jf k = -1:=by
 unfold jf;by_cases h0:k=0\/k=1\/k=2\/k=3\/k=4\/k=5
 ·rw[aP h0];exact .inl ⟨rfl,h0⟩
 ·rw[aI h0];by_cases h1:k=15\/k=16
  ·rw[aP h1];exact .inr (.inl ⟨rfl,h1⟩)
  ·rw[aI h1];by_cases h2:k=6\/k=7\/k=8\/k=9\/k=10\/k=11\/k=12\/k=13\/k=14\/k=17\/k=18\/k=19
   ·rw[aP h2];refine .inr (.inr (.inl ⟨rfl,?_⟩));unfold yr;simp only[cI,gX];omega
   ·rw[aI h2];exact .inr (.inr (.inr rfl))
def apr {t:TR} (h0:t.k=0\/t.k=1\/t.k=2\/t.k=3\/t.k=4\/t.k=5) (hf:uA t=true) (hr:wB t):Mr t.k t.nm t.n t.tx:=by
 obtain⟨k,nm,n,tx,x,y⟩:=t;unfold wB at hr;simp only at h0 hr ⊢;unfold Mr;rcases h0 with rfl | rfl | rfl | rfl | rfl | rfl<;>simp[uA,Bool.cond_eq_ite] at hf
 ·exact .inl ⟨rfl,hf⟩
 ·exact .inr (.inl ⟨rfl,hf.1,hf.2,hr⟩)
 ·exact .inr (.inr (.inl ⟨rfl,hf⟩))
 ·exact .inr (.inr (.inr (.inl ⟨rfl,hf⟩)))
 ·exact .inr (.inr (.inr (.inr (.inl ⟨rfl,hf⟩))))
 ·exact .inr (.inr (.inr (.inr (.inr ⟨rfl,hf⟩))))
def Zj {t:TR} (h0:¬ (t.k=0\/t.k=1\/t.k=2\/t.k=3)) (hf:uA t=true):t.nm=[]/\t.n=0/\t.tx=[]:=by
 obtain⟨k,nm,n,tx,x,y⟩:=t;simp only[not_or] at h0;unfold uA at hf;simp only at hf h0 ⊢;rw[iE h0.1,iE h0.2.1,iE h0.2.2.1,iE h0.2.2.2] at hf;simp[Bool.cond_eq_ite] at hf;exact hf
def dP (m:List Bool):Nat:=m.count true
def ag3 (m:List Bool):dP m<=m.length:=IL
def X6:∀(m:List Bool) (a:Nat),a < m.length->m.getD a false=false->dP (m.set a true)=dP m+1
 | [],a,h,_=>by simp at h
 | b::m,0,h,h'=>by
  have:b=false:=by simpa using h'
  subst this;simp[dP]
 | b::m,a+1,h,h'=>by
  have:=X6 m a (by simpa using h) (by simpa using h');simp only[dP,List.set_cons_succ,V5] at this ⊢;omega
def aeL {rc:WF} {ops i to:Int} {a:Nat} {d:Int} {m:List Bool} (h:(cU rc ops i to a d m).1=true) :
  (i>=ops/\to = -1/\(cU rc ops i to a d m).2=m)\/(i < ops/\∃c:Nat,to=c/\c < a/\rc c (d+1) m=(true,(cU rc ops i to a d m).2)):=by
 unfold cU at h ⊢;by_cases h1:i>=ops
 ·rw[dO (aM h1)] at h ⊢;exact .inl ⟨h1,by simpa using h,rfl⟩
 ·rw[dy (bm h1)] at h ⊢;by_cases h2:to < 0
  ·rw[dO (aM h2)] at h;cases h
  ·rw[dy (bm h2)] at h ⊢;by_cases h3:to>=(a:Int)
   ·rw[dO (aM h3)] at h;cases h
   ·rw[dy (bm h3)] at h ⊢;refine .inr ⟨by omega,to.toNat,by omega,by omega,?_⟩;generalize rc to.toNat (d+1) m=r at h ⊢;cases r;subst h;rfl
def afO {l:List TR} (hr:∀t∈l,wB t):∀(f a:Nat) (d:Int) (m m':List Bool),m.length=l.length->wk l f a d m=(true,m')->
  ∃t,wR t/\t.at_ (l.map cR) a/\(t.deep:Int)+d<=25/\m'.length=l.length/\dP m'=dP m+t.size
 | 0,a,d,m,m',hm,h=>by cases h
 | f+1,a,d,m,m',hm,h=>by
  have ih:=afO hr f;have h:Bu (wk l f) l a d m=(true,m'):=h;unfold Bu at h;cases ht:l[a]? with
  | none=>rw[ht] at h;cases h
  | some t=>
   rw[ht] at h;dsimp only at h;have C0:t∈l:=ff ht;have hla:a < l.length:=(cd.1 ht).1;have dr:(l.map cR)[a]? = some (cR t):=by rw[bQ,ht];rfl
   cases hg:m.getD a false with
   | true=>rw[hg] at h;cases h
   | false=>
    rw[hg,cond_false] at h;by_cases g1:d > 24
    ·rw[dO (aM g1)] at h;cases h
    rw[dy (bm g1)] at h;by_cases g2:jf t.k < 0
    ·rw[dO (aM g2)] at h;cases h
    rw[dy (bm g2)] at h;cases g3:uA t with
    | false=>rw[g3] at h;cases h
    | true=>
     rw[g3,dy (show (!true)=false from rfl)] at h;have hs:=X6 m a (by omega) hg;have mq:(m.set a true).length=l.length:=by simpa using hm
     generalize m.set a true=m1 at h hs mq;cases g4:(cU (wk l f) (jf t.k) 0 t.x a d m1).1 with
     | false=>rw[g4] at h;cases h
     | true=>
      rw[g4,ua] at h;have i0:=aeL g4;generalize (cU (wk l f) (jf t.k) 0 t.x a d m1).2=m2 at h i0;have i1:=aeL (show (cU (wk l f) (jf t.k) 1 t.y a d m2).1=true by rw[h]);rw[h] at i1;rcases aqd t.k with⟨hk,iH⟩ | ⟨hk,iH⟩ | ⟨hk,iH⟩ | hk
      ·rw[hk] at i0 i1;rcases i0 with⟨_,hx,rfl⟩ | ⟨h9,_⟩
       ·rcases i1 with⟨_,hy,h8⟩ | ⟨h9,_⟩
        ·simp only at h8;subst h8;refine⟨.lf t.k t.nm t.n t.tx,apr iH g3 (hr t C0),⟨a,rfl,?_⟩,?_,mq,hs⟩
         ·rw[dr];unfold cR;rw[hx,hy]
         ·show ((1:Nat):Int)+d<=25;omega
        ·omega
       ·omega
      ·rw[hk] at i0 i1;obtain⟨e1,e2,e3⟩:=Zj (by omega) g3;rcases i0 with⟨h9,_⟩ | ⟨_,c,hx,hc,rk⟩
       ·omega
       ·rcases i1 with⟨_,hy,h8⟩ | ⟨h9,_⟩
        ·simp only at h8;subst h8;obtain⟨t1,lV,BR,dp1,jI,c1⟩:=ih c (d+1) m1 m' mq rk;refine⟨.un t.k t1,⟨iH,lV⟩,⟨a,t.x,rfl,?_,?_⟩,?_,jI,?_⟩
         ·rw[dr];unfold cR;rw[hy,e1,e2,e3]
         ·rw[hx];exact BR
         ·show ((t1.deep+1:Nat):Int)+d<=25;omega
         ·show dP m'=dP m+(t1.size+1);omega
        ·omega
      ·rw[hk] at i0 i1;have hk3:¬ (t.k=0\/t.k=1\/t.k=2\/t.k=3):=by
        rcases iH with h | h | h | h
        ·unfold yr at h;simp only[cI,gX] at h;omega
        ·omega
        ·omega
        ·omega
       obtain⟨e1,e2,e3⟩:=Zj hk3 g3;rcases i0 with⟨h9,_⟩ | ⟨_,c,hx,hc,rk⟩
       ·omega
       ·rcases i1 with⟨h9,_⟩ | ⟨_,c',hy,ml,alu⟩
        ·omega
        ·obtain⟨t1,lV,BR,dp1,jI,c1⟩:=ih c (d+1) m1 m2 mq rk;obtain⟨t2,yK,at2,dp2,ew,c2⟩:=ih c' (d+1) m2 m' jI alu;refine⟨.bi t.k t1 t2,⟨iH,lV,yK⟩,⟨a,t.x,t.y,rfl,?_,?_,?_⟩,?_,ew,?_⟩
         ·rw[dr];unfold cR;rw[e1,e2,e3]
         ·rw[hx];exact BR
         ·rw[hy];exact at2
         ·show ((max t1.deep t2.deep+1:Nat):Int)+d<=25;omega
         ·show dP m'=dP m+(t1.size+t2.size+1);omega
      ·omega
def abS {l:List TR} (hr:∀t∈l,wB t) {root:Int} (h:pP l root=true):∃t,wR t/\t.at_ (l.map cR) root/\t.deep<=24/\t.size<=l.length:=by
 unfold pP at h;simp only[cI,gX] at h;obtain⟨h1,h2,h3,h4⟩:=h;have h5:wk l 25 root.toNat 1 (List.replicate l.length false)=(true,(wk l 25 root.toNat 1 (List.replicate l.length false)).2):=by
  generalize wk l 25 root.toNat 1 (List.replicate l.length false)=r at h4 ⊢;cases r;subst h4;rfl
 obtain⟨t,ok,BR,dp,hl,c⟩:=afO hr 25 root.toNat 1 _ _ (by simp) h5;have c0:dP (List.replicate l.length false)=0:=by simp[dP,List.count_replicate]
 have:=ag3 (wk l 25 root.toNat 1 (List.replicate l.length false)).2;rw[show ((root.toNat:Nat):Int)=root by omega] at BR;exact⟨t,ok,BR,by omega,by omega⟩
end
section
open Go Go.ax PT
def aqX (n:Nat) (hn:2<=n) (s:BB):T n 119 [.one (sC s)] []=some (.one (bC (wF s)),[]):=by
 obtain⟨m,rfl⟩:=p6 hn;refine aii _ ?_;rw[am1];rw[show rF=(some (.one (.d (.bool false)),[]):OR) from rfl];simp only[W5];rfl
def adD (n:Nat) (hn:1<=n) (c:UInt8):T n 118 [.one (.d (.int .u8 (ae c.toNat)))] []=some (.one (bC (isLet c)),[]):=by
 obtain⟨m,rfl⟩:=p6 hn;refine aio _ ?_;rw[<-abw];exact Nl _ _ _
def aqO (n:Nat) (hn:1<=n) (c:UInt8):T n 120 [.one (.d (.int .u8 (ae c.toNat)))] []=some (.one (bC (oH c)),[]):=by
 obtain⟨m,rfl⟩:=p6 hn;refine ain _ ?_;rw[<-Yk];exact Nl _ _ _
def adE (n:Nat) (hn:1<=n) (q:Nat) (s:BB) (hs:s.length < 100000):∀(k i:Nat),s.length - i < k->G4 (T n) q k s (i:Int)=some (.one (bC ((s.drop i).all kW)),[])
 | 0,i,hk=>by omega
 | k+1,i,hk=>by
  rw[am2];by_cases h:i < s.length
  ·have hc:s[i]? = some s[i]:=gE h;have hd:s.drop i=s[i]::s.drop (i+1):=ku h;have ih:=adE n hn q s hs k (i+1) (by omega);rw[hd,vw];generalize s[i]=c at hc hd;rw[dO (by simp[nh];omega),Eb _ rfl,qO _ hc,adD n hn,tH];dsimp only;cases hl:isLet c with
   | true=>
    rw[dy (show (!true)=false from rfl),EG i (by omega),ih];simp[kW,hl]
   | false=>
    rw[dO (show (!false)=true from rfl),Eb _ rfl,qO _ hc,aqO n hn,tH];dsimp only;cases hg:oH c with
    | true=>
     rw[dy (show (!true)=false from rfl),EG i (by omega),ih];simp[kW,hl,hg]
    | false=>
     rw[dO (show (!false)=true from rfl)];simp[kW,hl,hg]
  ·rw[dy (by simp[nh];omega),nC (by omega)];rfl
def Ei (n:Nat) (hn:20<=n) (s:BB):T n 64 [.one (sC s)] []=some (.one (bC (cq s)),[]):=by
 obtain⟨m,rfl⟩:=bl 20 n;refine aij _ ?_;cases s with
 | nil=>rfl
 | cons c r=>
  have h1:ae (c::r).length=((r.length+1:Nat):Int):=by simp[nh]
  rw[h1,dy (by simp;omega)];by_cases h:r.length+1<=12
  ·rw[dy (by simp;omega),qO (o:=(c::r)[Int.toNat 0]?) (b:=c) _ rfl,adD (m+19) (by omega),tH];dsimp only;rw[show cq (c::r)=(decide (r.length+1<=12)&&isLet c && !(wF (c::r))&&r.all kW) from rfl,aM h];cases hl:isLet c with
   | false=>rfl
   | true=>
    rw[dy (show (!true)=false from rfl),c119,aqX (m+19) (by omega),tH];dsimp only;cases hk:wF (c::r) with
    | true=>rfl
    | false=>
     rw[dy rfl,am3];rw[show (1:Int)=((1:Nat):Int) from rfl,adE (m+19) (by omega) _ (c::r) (by simp;omega) _ _ (by simp;omega)];rfl
  ·rw[dO (by simp;omega)];rw[show cq (c::r)=(decide (r.length+1<=12)&&isLet c && !(wF (c::r))&&r.all kW) from rfl,bm h];rfl
def rM (s:BB):Nat->List BB->Int
 | _,[]=>-1
 | i,x::t=>bif x==s then(i:Int) else rM s (i+1) t
def TQ (s:BB):∀(l:List BB) (i:Nat),decide (rM s i l>=0)=l.contains s
 | [],i=>rfl
 | x::t,i=>by
  rw[Od,rM];have ih:=TQ s t (i+1);by_cases h:x=s
  ·subst h;simp
  ·rw[lI.2 h,cond_false,ih,lI.2 (Ne.symm h)];rfl
def acG (s:BB):∀(pre t:List BB) (i:Nat),(rM s i (pre++s::t) != ((i+pre.length:Nat):Int))=pre.contains s
 | [],t,i=>by simp[rM]
 | x::pre,t,i=>by
  rw[sr,rM,Od];by_cases h:x=s
  ·subst h;simp;omega
  ·rw[lI.2 h,cond_false,lI.2 (Ne.symm h),xo,<-acG s pre t (i+1),jl,show i+(pre.length+1)=i+1+pre.length by omega]
section
variable {m:Nat} {b:Bool} {l:List BB} {s:BB}
def acI (q:Nat) (hl:l.length<=1000000):∀(c i:Nat),l.length - i < c->i<=l.length->KK (T q) q c b (l.map aE) s (ae (l.map aE).length) (i:Int)=some (.one (iC (rM s i (l.drop i))),[])
 | 0,i,hc,_=>by omega
 | c+1,i,hc,hi=>by
  rw[al9];by_cases h:i < l.length
  ·rw[ku h,rM];refine dz (aM (by rw[cm,cX];omega)) (fZ (v:=(l[i],())) rfl (by rw[bQ,gE h];rfl) (by simp[aE]) rfl ?_);dsimp only;cases l[i]==s with
   | true=>rfl
   | false=>
    rw[cond_false,cond_false,wI i];exact acI q hl c (i+1) (by omega) (by omega)
  ·rw[nC (by omega)];exact bj (bm (by rw[cm,cX];omega)) rfl
def acH (hm:l.length+2<=m) (hl:l.length<=1000000):T m 152 [.one (lC (.im b) 1 (l.map aE)),.one (sC s)] []=some (.one (iC (rM s 0 l)),[]):=by
 obtain⟨m,rfl⟩:=bT (show 1<=m by omega);exact ahp _ (acI m hl m 0 (by omega) (by omega))
def QP (hm:l.length+3<=m) (hl:l.length<=1000000):T m 110 [.one (lC (.im b) 1 (l.map aE)),.one (sC s)] []=some (.one (bC (l.contains s)),[]):=by
 obtain⟨m,rfl⟩:=bT (show 1<=m by omega);rw[<-TQ s l 0];exact ahl _ (Bk (acH (by omega) hl) rfl)
def acn (q:Nat) (hq:l.length+2<=q) (hl:l.length<=1000000):∀(c i:Nat),l.length - i < c->i<=l.length->KJ (T q) q c b (l.map aE) (ae (l.map aE).length) (i:Int)=some (.one (bC (rH (l.take i) (l.drop i))),[])
 | 0,i,hc,_=>by omega
 | c+1,i,hc,hi=>by
  rw[al8];by_cases h:i < l.length
  ·have e:=acG l[i] (l.take i) (l.drop (i+1)) 0;rw[<-ku h,VJ,ud,Nat.min_eq_left hi,cQ] at e;rw[ku h,rH,<-e];refine dz (aM (by rw[cm,cX];omega)) (fZ (v:=(l[i],())) rfl (by rw[bQ,gE h];rfl) (by simp[aE]) rfl ?_);refine Bk (acH hq hl) ?_;dsimp only;cases rM l[i] 0 l != (i:Int) with
   | true=>rfl
   | false=>
    rw[cond_false,wI i];have:=acn q hq hl c (i+1) (by omega) (by omega);rw[sq,gE h] at this;exact this
  ·rw[nC (by omega)];exact bj (bm (by rw[cm,cX];omega)) rfl
def acm (hm:l.length+3<=m) (hl:l.length<=1000000):T m 95 [.one (lC (.im b) 1 (l.map aE))] []=some (.one (bC (rH [] l)),[]):=by
 obtain⟨m,rfl⟩:=bT (show 1<=m by omega);exact aho _ (acn m (by omega) hl m 0 (by omega) (by omega))
def adL (q:Nat) (hl:l.length<=1000000):∀(c i:Nat),l.length - i < c->i<=l.length->K8 (T q) q c b (l.map aE) s (i:Int)=some (.one (iC (rM s i (l.drop i))),[])
 | 0,i,hc,_=>by omega
 | c+1,i,hc,hi=>by
  rw[am5];by_cases h:i < l.length
  ·rw[ku h,rM];refine dz (aM (by rw[cm,cX];omega)) (fZ (v:=(l[i],())) rfl (by rw[bQ,gE h];rfl) (by simp[aE]) rfl ?_);dsimp only;cases l[i]==s with
   | true=>rfl
   | false=>
    rw[cond_false,cond_false,wI i];exact adL q hl c (i+1) (by omega) (by omega)
  ·rw[nC (by omega)];exact bj (bm (by rw[cm,cX];omega)) rfl
def Nk (hm:l.length+3<=m) (hl:l.length<=1000000):T m 71 [.one (lC (.im b) 1 (l.map aE)),.one (sC s)] []=some (.one (bC (l.contains s)),[]):=by
 obtain⟨m,rfl⟩:=bl 2 m;rw[<-TQ s l 0];exact aih _ (Bk (ail _ (adL m hl m 0 (by omega) (by omega))) rfl)
def adH (q:Nat) (hq:l.length+3<=q) (hl:l.length<=1000000):∀(c i:Nat),l.length - i < c->i<=l.length->K7 (T q) q c b (l.map aE) (i:Int)=some (.one (bC (rH (l.take i) (l.drop i))),[])
 | 0,i,hc,_=>by omega
 | c+1,i,hc,hi=>by
  rw[am4];by_cases h:i < l.length
  ·rw[ku h,rH];refine dz (aM (by rw[cm,cX];omega)) (qo (qd rfl) (eI (aM (by rw[cX];omega)) (fZ (v:=(l[i],())) rfl (by rw[bQ,gE h];rfl) (by simp[aE]) rfl ?_)));have e:List.take (i - 0) (List.drop 0 (l.map aE))=(l.take i).map aE:=by rw[xp,su,List.map_take]
   dsimp only;rw[e];refine iM (Nk (by rw[ud];omega) (by rw[ud];omega)) ?_;dsimp only;cases (l.take i).contains l[i] with
   | true=>rfl
   | false=>
    rw[cond_false,wI i];have:=adH q hq hl c (i+1) (by omega) (by omega);rw[sq,gE h] at this;exact this
  ·rw[nC (show l.length<=i by omega)];exact bj (bm (by rw[cm,cX];omega)) rfl
def aq3 (hm:l.length+4<=m) (hl:l.length<=1000000):T m 70 [.one (lC (.im b) 1 (l.map aE))] []=some (.one (bC (rH [] l)),[]):=by
 obtain⟨m,rfl⟩:=bT (show 1<=m by omega);exact aik _ (adH m (by omega) hl m 0 (by omega) (by omega))
end
end
section
open Go Go.ax PT
def KA:∀s:BB,(Lib.indexByte s 46 = -1/\∀p,qX p s=cq (p++s))\/∃i:Nat,Lib.indexByte s 46=(i:Int)/\i < s.length/\∀p,qX p s=(cq (p++s.take i)&&cq (s.drop (i+1)))
 | []=>.inl ⟨rfl,λp=>by rw[oa];rfl⟩
 | c::t=>by
  by_cases hc:c=46
  ·subst hc;refine .inr ⟨0,rfl,by simp,λp=>?_⟩;rw[IH,oa];rfl
  ·have hb:(c==46)=false:=lI.2 hc;have e:Lib.indexByte (c::t) 46=if Lib.indexByte t 46 == -1 then -1 else Lib.indexByte t 46+1:=by
    show (if c==46 then(0:Int) else _)=_;rw[hb];rfl
   have e2:∀p,qX p (c::t)=qX (p++[c]) t:=λp=>by
    show (bif c==46 then _ else _)=_;rw[hb];rfl
   rcases KA t with⟨h1,h2⟩ | ⟨i,h1,h2,h3⟩
   ·refine .inl ⟨by rw[e,h1];rfl,λp=>?_⟩;rw[e2,h2,fI];rfl
   ·refine .inr ⟨i+1,?_,by simpa using h2,λp=>?_⟩
    ·rw[e,h1,aI (by simp<;>omega)];try omega
    ·rw[e2,h3,fI];rfl
def agN (k:Int) (x:BB):(bif decide (k < 0) then false else(bif decide (k > 5) then false else(bif k != 5 then x==[] else qX [] x)))=oe k x:=by
 unfold oe;by_cases h5:k=5
 ·subst h5;rfl
 ·rw[lI.2 h5,show (k != 5)=true by simpa using h5,cond_false,ua];by_cases h0:k < 0
  ·rw[aM h0,bm (show ¬ 0<=k by omega)];rfl
  ·rw[bm h0,aM (show 0<=k by omega)];by_cases h:k < 5
   ·rw[aM h,bm (show ¬ k > 5 by omega)];rfl
   ·rw[bm h,aM (show k > 5 by omega)];rfl
section
variable {m:Nat}
def alI (m:Nat) (s:BB):T (m+1) 256 [.one (sC s),.one (.d (.int .u8 46))] []=some (.one (iC (Lib.indexByte s 46)),[]):=by kernel_rfl
def aaw (hm:3<=m) (x:BB):T m 247 [.one (sC x),.one (sC [46])] []=some (.one (iC (Lib.indexByte x 46)),[]):=by
 obtain⟨m,rfl⟩:=bl 2 m;refine ai9 _ (bj rfl ?_);cases h:([46]:BB)==x with
 | true=>
  have:x=[46]:=by simpa using (kv.1 h).symm
  subst this;rfl
 | false=>exact bj rfl (dz rfl (qo (b:=46) rfl (Bk (alI m x) rfl)))
def Yb (hm:6<=m) {x:BB} (hx:x.length<=140737488355328) {K:(BB×BB×Bool×Unit)×Unit->OR} {z:OR} (h1:Lib.indexByte x 46 = -1->K ((x,[],false,()),())=z) (h2:∀i:Nat,Lib.indexByte x 46=(i:Int)->K ((x.take i,x.drop (i+1),true,()),())=z) :
  aA (.ao [(.one (.str)),(.one (.str)),(.one (.bool))] []) (T m 207 [.one (sC x),.one (sC [46])] []) K=z:=by
 obtain⟨m,rfl⟩:=bl 3 m;rcases KA x with⟨h,_⟩ | ⟨i,h,hi,_⟩
 ·refine NS (v:=(x,[],false,())) (Yr _ (NS (x:=[.one (sC x),.one (sC []),.one (bC false)]) (v:=(x,[],false,())) (Yv _ (Bk (aaw (m:=m+1) (by omega) x) ?_)) rfl rfl)) rfl (h1 h);rw[h];rfl
 ·refine NS (v:=(x.take i,x.drop (i+1),true,())) (Yr _ (NS (x:=[.one (sC (x.take i)),.one (sC (x.drop (i+1))),.one (bC true)]) (v:=(x.take i,x.drop (i+1),true,())) (Yv _ (Bk (aaw (m:=m+1) (by omega) x) ?_)) rfl rfl)) rfl (h2 i h);rw[h];dsimp only;refine dz (aM (Int.natCast_nonneg i)) (qo (qd rfl) (eI (aM (Nat.le_of_lt hi)) (qo (b:=i+1) ?_ (eI ?_ ?_))))
  ·rw[show ak ((i:Int)+ae ([46]:BB).length)=((i+1:Nat):Int) from iP (n:=i+1) rfl (by omega)];exact qd rfl
  ·simp;omega
  ·rw[xp,su,zn (l:=x.drop (i+1)) (by rw[zq];omega)]
def ar7 (hm:60<=m) {k:Int} {x:BB} (hx:x.length<=140737488355328):T m 165 [.agg [iC k,sC x]] []=some (.one (bC (oe k x)),[]):=by
 obtain⟨m,rfl⟩:=bl 2 m;rw[<-agN];refine ajg _ ?_;cases decide (k < 0) with
 | true=>rfl
 | false=>
 refine bj rfl ?_;cases decide (k > 5) with
 | true=>rfl
 | false=>
 refine bj rfl ?_;rw[apa];dsimp only;cases k != 5 with
 | true=>rfl
 | false=>
 refine bj rfl ?_;rcases KA x with⟨h,hc⟩ | ⟨i,h,hi,hc⟩
 ·rw[show (bif false then false else(bif false then false else(bif false then x==[] else qX [] x)))=cq x from hc []];refine Yb (m:=m+1) (by omega) hx (λ_=>?_) (λj hj=>by omega);refine iM (wJ (m+1) (by omega) x) ?_;dsimp only;cases cq x<;>rfl
 ·rw[show (bif false then false else(bif false then false else(bif false then x==[] else qX [] x)))=(cq (x.take i)&&cq (x.drop (i+1))) from hc []];refine Yb (m:=m+1) (by omega) hx (λhj=>by omega) (λj hj=>?_);obtain rfl:j=i:=by omega
  refine iM (wJ (m+1) (by omega) (x.take j)) ?_;dsimp only;cases cq (x.take j) with
  | false=>rfl
  | true=>exact dz rfl (bj rfl (iM (wJ (m+1) (by omega) (x.drop (j+1))) rfl))
def adV (q:Nat) (hq:40<=q) {x:BB} (hx:x.length<=140737488355328):∀(c i:Nat),x.length - i < c->i<=x.length->LB (T q) q c x (i:Int)=some (.one (bC (qX (x.take i) (x.drop i))),[])
 | 0,i,hc,_=>by omega
 | c+1,i,hc,hi=>by
  rw[anZ];by_cases h:i < x.length
  ·rw[ku h,qX];refine dz (aM (by rw[cm];omega)) (qo (qd rfl) (qo (gE h) ?_));have e:(ae x[i].toNat==(46:Int))=(x[i]==46):=by
    rw[show (46:Int)=((46:Nat):Int) from rfl,Mv];by_cases h:x[i]=46
    ·rw[h];rfl
    ·rw[lI.2 h];exact bm λe=>h (UInt8.toNat_inj.1 e)
   rw[e];cases x[i]==46 with
   | true=>
    rw[ua,ua];refine(qo (qd rfl) (eI (aM (by omega)) ?_));rw[xp,su];refine iM (Ei q (by omega) (x.take i)) ?_;dsimp only;cases cq (x.take i) with
    | false=>rfl
    | true=>
     refine dz rfl (qo (b:=i+1) (by rw[wI i];exact qd rfl) (eI (by simp;omega) ?_));rw[zn (by rw[zq];omega)];exact iM (Ei q (by omega) (x.drop (i+1))) rfl
   | false=>
    rw[cond_false,cond_false,wI i];have:=adV q hq hx c (i+1) (by omega) (by omega);rw[sq,gE h] at this;exact this
  ·rw[nC (show x.length<=i by omega),zn (show x.length<=i by omega)];exact bj (bm (by rw[cm];omega)) (iM (Ei q (by omega) x) rfl)
def aqL {k:Int} {x:BB} (hm:60<=m/\x.length+10<=m) (hx:x.length<=140737488355328):T m 54 [.agg [iC k,sC x]] []=some (.one (bC (oe k x)),[]):=by
 obtain⟨m,rfl⟩:=bl 2 m;unfold oe;refine ais _ ?_;cases h5:k==(5:Int) with
 | true=>
  refine dz rfl (iM (aiF _ (adV m (by omega) hx m 0 (by omega) (by omega))) ?_);rw[ua,IH,su]
 | false=>
  refine bj rfl ?_;rw[cond_false];by_cases h0:0<=k
  ·rw[aM (show k>=0 from h0)];cases decide (k < 5)<;>rfl
  ·rw[bm (show ¬ k>=0 from h0)];rfl
end
end
section
open Go Go.ax PT
def abW:∀(l:List BB) (x:BB),qz (l.map λs=>[.str s,.bool true]) x=l.contains x
 | [],x=>rfl
 | s::l,x=>by
  have ih:=abW l x;rw[Od,<-ih];show (bif x==s then true else qz (l.map λs=>[.str s,.bool true]) x)=_;cases x==s<;>rfl
def abX:∀(l:List BB) (x:BB),x∉l->qA (l.map λs=>[.str s,.bool true]) x true=(l++[x]).map λs=>[.str s,.bool true]
 | [],x,h=>rfl
 | s::l,x,h=>by
  rw[ik,not_or] at h;have ih:=abX l x h.2;show (bif x==s then _ else[.str s,.bool true]::qA (l.map λs=>[.str s,.bool true]) x true)=_;rw[show (x==s)=false from lI.2 h.1,ih];rfl
def z8 {l:List RA} {i:Nat} (h:i < l.length):(l.map eH)[i]? = some (eH l[i]):=by rw[bQ,gE h];rfl
def wA (a:RA):Prop:=a.nm.length<=140737488355328
def ke {X Y:Type} (f:X->Y) (l:List X):ae (l.map f).length=(l.length:Int):=by rw[cm,cX]
def vN {i n:Nat} (h:i < n):decide ((i:Int) < (n:Int))=true:=aM (by omega)
def vO {i n:Nat} (h:¬ i < n):decide ((i:Int) < (n:Int))=false:=bm (by omega)
section
variable {m:Nat} {b:Bool} {P:Int} {l:List RA}
def aeQ (q:Nat) (hm:70<=m) (hl:l.length<=1000000) (hw:∀a∈l,wA a):∀(k i:Nat),l.length - i < k->i<=l.length->
  Ml (T m) q k P (((l.take i).map RA.eK).map λs=>[.str s,.bool true]) b (l.map eH) (ae (l.map eH).length) (i:Int)=some (.one (bC (uk P ((l.take i).map RA.eK) (l.drop i))),[])
 | 0,i,h,_=>by omega
 | k+1,i,h,hi=>by
  rw[ao9,ke];by_cases af:i < l.length
  ·have ih:=aeQ q hm hl hw k (i+1) (by omega) (by omega);rw[ke,sq,gE af] at ih;rw[ku af,uk];have ha:=hw _ (bU af);refine dz (vN af) (fZ (v:=(l[i].eK,l[i].kd,l[i].nm,l[i].nx,())) rfl (z8 af) (by simp[eH]) rfl ?_);dsimp only;generalize l[i]=a at ih ha ⊢;refine iM (wJ m (by omega) a.eK) ?_;dsimp only;rw[abW,vH];cases h1:cq a.eK with
   | false=>simp
   | true=>
   cases h2:((l.take i).map RA.eK).contains a.eK with
   | true=>simp
   | false=>
   refine bj rfl (bj rfl (iM (ar7 (by omega) ha) ?_));dsimp only;cases h3:oe a.kd a.nm with
   | false=>simp
   | true=>
   refine bj rfl ?_;by_cases h4:a.nx < 0
   ·rw[aM h4,bm (show ¬ 0<=a.nx by omega)];simp
   rw[bm h4,aM (show 0<=a.nx by omega)];refine bj rfl ?_;by_cases h5:a.nx < P
   ·rw[bm (show ¬ a.nx>=P by omega),aM h5];refine bj rfl ?_;rw[abX _ _ (by simpa using h2),wI i];simp only[eF,N9,e9,vy] at ih ⊢;simpa using ih
   ·rw[aM (show a.nx>=P by omega),bm h5];simp
  ·rw[nC (by omega)];exact bj (vO af) rfl
def ar6 (hm:l.length+80<=m) (hw:∀a∈l,wA a):T m 108 [.one (lC (.im b) 4 (l.map eH)),.one (iC P)] []=some (.one (bC (sD P l)),[]):=by
 obtain⟨m,rfl⟩:=bl 2 m;refine ajf _ ?_;rw[ke];unfold sD;by_cases h1:1<=l.length
 ·rw[aM h1,bm (show ¬ (l.length:Int) < 1 by omega)];refine bj rfl ?_;by_cases h2:l.length<=6
  ·rw[aM h2,bm (show ¬ (l.length:Int) > 6 by omega)];refine bj rfl ?_;rw[ao'];exact aeQ (m+1) (by omega) (by omega) hw (m+1) 0 (by omega) (by omega)
  ·rw[bm h2,aM (show (l.length:Int) > 6 by omega)];rfl
 ·rw[bm h1,aM (show (l.length:Int) < 1 by omega)];rfl
def adj (q:Nat) (hl:l.length<=140737488355328) (c1:Nat) {i:Nat} (hi:i < l.length) {z:Bool}
  (hZ:G5 (T q) q c1 b (l.map eH) P ((i+1:Nat):Int)=some (.one (bC z),[])):∀(c j:Nat),i - j < c->j<=i->
  Lg (T q) q c1 c b (l.map eH) P (i:Int) (j:Int)=some (.one (bC (!(((l.take i).drop j).map RA.eK).contains l[i].eK&&z)),[])
 | 0,j,hc,_=>by omega
 | c+1,j,hc,hj=>by
  rw[anf];by_cases h:j < i
  ·have ht:j < (l.take i).length:=by rw[ud];omega
   rw[ku ht,e9,Od,List.getElem_take];refine dz (vN h) (fZ (v:=(l[j].eK,())) rfl (z8 (show j < l.length by omega)) (by simp[eH]) rfl (fZ (v:=(l[i].eK,())) rfl (z8 hi) (by simp[eH]) rfl ?_));dsimp only;have e:(l[j].eK==l[i].eK)=(l[i].eK==l[j].eK):=by
    by_cases h:l[j].eK=l[i].eK
    ·rw[h]
    ·rw[lI.2 h,lI.2 (Ne.symm h)]
   rw[e];cases l[i].eK==l[j].eK with
   | true=>rfl
   | false=>
    rw[cond_false,wI j,adj q hl c1 hi hZ c (j+1) (by omega) (by omega),xo]
  ·obtain rfl:j=i:=by omega
   refine bj (vO h) ?_;rw[wI j,hZ,nC (by rw[ud];omega)];simp
def adk (q:Nat) (hq:l.length+80<=q) (hl:l.length<=140737488355328) (hw:∀a∈l,a.nm.length+10<=q/\wA a):∀(c i:Nat),l.length - i < c->i<=l.length->
  G5 (T q) q c b (l.map eH) P (i:Int)=some (.one (bC ((decide (1<=l.length)&&decide (l.length<=6))&&uk P ((l.take i).map RA.eK) (l.drop i))),[])
 | 0,i,hc,_=>by omega
 | c+1,i,hc,hi=>by
  rw[ane,ke];by_cases af:i < l.length
  ·have ih:=adk q hq hl hw c (i+1) (by omega) (by omega);obtain⟨r,hr⟩:=bl 1 q;have e2:Lh (T q) q c q=Lh (T q) q c (r+1):=by rw[<-hr]
   have j9:=adj (P:=P) (b:=b) q hl c af ih q 0 (by omega) (by omega);rw[su] at j9;rw[ku af,uk];have ha:=hw _ (bU af);refine dz (vN af) (fZ (v:=(l[i].eK,())) rfl (z8 af) (by simp[eH]) rfl (iM (Ei q (by omega) l[i].eK) ?_));dsimp only;rw[vH];cases h1:cq l[i].eK with
   | false=>simp
   | true=>
   refine bj rfl (fZ (v:=(l[i].kd,l[i].nm,())) rfl (z8 af) (by simp[eH]) rfl (iM (aqL (x:=l[i].nm) ⟨by omega,ha.1⟩ ha.2) ?_));dsimp only;cases h3:oe l[i].kd l[i].nm with
   | false=>simp
   | true=>
   refine bj rfl (fZ (v:=(l[i].nx,())) rfl (z8 af) (by simp[eH]) rfl ?_);dsimp only;by_cases h4:l[i].nx < 0
   ·rw[aM h4,bm (show ¬ 0<=l[i].nx by omega)];simp
   rw[bm h4,aM (show 0<=l[i].nx by omega)];refine bj rfl (fZ (v:=(l[i].nx,())) rfl (z8 af) (by simp[eH]) rfl ?_);dsimp only;by_cases h5:l[i].nx < P
   ·rw[bm (show ¬ l[i].nx>=P by omega),aM h5];refine bj rfl ?_;rw[e2,ang];refine j9.trans ?_;rw[sq,gE af];simp only[eF,N9,e9,vy];cases ((l.take i).map RA.eK).contains l[i].eK<;>simp
   ·rw[aM (show l[i].nx>=P by omega),bm h5];simp
  ·rw[nC (by omega),uk,Bool.and_true];refine bj (vO af) ?_;by_cases h1:1<=l.length
   ·rw[aM h1,aM (show (l.length:Int)>=1 by omega)];by_cases h6:l.length<=6
    ·rw[aM h6,aM (show (l.length:Int)<=6 by omega)];rfl
    ·rw[bm h6,bm (show ¬ (l.length:Int)<=6 by omega)];rfl
   ·rw[bm h1,bm (show ¬ (l.length:Int)>=1 by omega)];rfl
def aqK (hm:l.length+90<=m) (hl:l.length<=140737488355328) (hw:∀a∈l,a.nm.length+11<=m/\wA a):T m 72 [.one (lC (.im b) 4 (l.map eH)),.one (iC P)] []=some (.one (bC (sD P l)),[]):=by
 obtain⟨m,rfl⟩:=bT (show 1<=m by omega);exact air _ (adk m (by omega) hl (λa ha=>⟨by have:=(hw a ha).1;omega,(hw a ha).2⟩) m 0 (by omega) (by omega))
end
end
section
open Go Go.ax PT
def akC {l:List RT} {i:Nat} (h:i < l.length):(l.map gJ)[i]? = some (gJ l[i]):=by rw[bQ,gE h];rfl
def Qv {l:List RP} {i:Nat} (h:i < l.length):(l.map gI)[i]? = some (gI l[i]):=by rw[bQ,gE h];rfl
def Zs {l:List BB} {i:Nat} (h:i < l.length):(l.map aE)[i]? = some [.str l[i]]:=by rw[bQ,gE h];rfl
def wM (M:Nat) (l:List RA):Prop:=l.length+200<=M/\l.length<=140737488355328/\∀a∈l,a.nm.length+200<=M/\wA a
def abt {X:Type} (l:List X):(ae l.length==(0:Int))=l.isEmpty:=by cases l<;>simp[ae];omega
section
variable {m M:Nat} {b b2:Bool}
def aeT (m q:Nat) (hM:M<=m) (a0:aq nT) (P:Nat) (hP:ae a0.2.1.2.length=(P:Int)) (l:List RT) (hl:l.length<=1000000) (hw:∀t∈l,wM M t.ms):∀(k i:Nat),l.length - i < k->i<=l.length->
  Mk (T m) (q+1) k a0 b (l.map gJ) (ae (l.map gJ).length) (i:Int)=some (.one (bC ((l.drop i).all (sd P))),[])
 | 0,i,h,_=>by omega
 | k+1,i,h,hi=>by
  rw[ao6,ke];by_cases af:i < l.length
  ·have ih:=aeT m q hM a0 P hP l hl hw k (i+1) (by omega) (by omega);rw[ke] at ih;rw[ku af,vw];have ha:=hw _ (bU af);refine dz (vN af) (fZ (v:=(l[i].kd,l[i].pr,(l[i].t,l[i].ms.map eH),())) rfl (akC af) (by simp[gJ]) rfl ?_);dsimp only;rw[hP];generalize l[i]=t at ih ha ⊢;have fin:∀{y:Bool},y=true->DL (T m) (q+1) k (q+1) a0 b (l.map gJ) (l.length:Int) (i:Int) (t.kd,t.pr,(t.t,t.ms.map eH),())=some (.one (bC (y&&(l.drop (i+1)).all (sd P))),[]):=by
    intro y hy;rw[ao7,wI i,hy,zu];exact ih
   have arm:∀{y:Bool},y=(cq t.pr&&sD P t.ms)->(fc (T m) t.pr λv3=>bif !v3.1 then rF else O8 (T m) t.t (t.ms.map eH) (P:Int) λv4=>bif !v4.1 then rF else DL (T m) (q+1) k (q+1) a0 b (l.map gJ) (l.length:Int) (i:Int) (t.kd,t.pr,(t.t,t.ms.map eH),()))=some (.one (bC (y&&(l.drop (i+1)).all (sd P))),[]):=by
    intro y hy;refine iM (wJ m (by have:=ha.1;omega) t.pr) ?_;dsimp only;cases h1:cq t.pr with
    | false=>rw[hy,h1];rfl
    | true=>
    refine bj rfl (iM (ar6 (by have:=ha.1;omega) λa h=>(ha.2.2 a h).2) ?_);dsimp only;cases h2:sD P t.ms with
    | false=>rw[hy,h1,h2];rfl
    | true=>exact bj rfl (fin (by rw[hy,h1,h2];rfl))
   unfold sd;cases h0:t.kd==(0:Int) with
   | true=>
    refine dz rfl ?_;rw[ua];cases h1:t.pr==[] with
    | false=>rfl
    | true=>
    refine bj rfl ?_;rw[ke];cases h2:t.ms with
    | cons x r=>exact dz (aM (show (((x::r).length:Nat):Int) > 0 by simp<;>omega)) rfl
    | nil=>rw[h2] at fin;exact bj rfl (fin rfl)
   | false=>
    refine bj rfl ?_;rw[cond_false];cases h1:t.kd==(1:Int) with
    | true=>exact dz rfl (arm rfl)
    | false=>
    refine bj rfl ?_;cases h2:t.kd==(2:Int) with
    | true=>exact dz rfl (arm rfl)
    | false=>rfl
  ·rw[nC (by omega)];exact bj (vO af) rfl
def NO (hM:M+100<=m) {nm:BB} {l:List RT} (hw:∀t∈l,wM M t.ms):T m 53 [.agg [sC nm,lC (.im b) 3 (l.map gJ)]] []=some (.one (bC (tU l)),[]):=by
 obtain⟨m,rfl⟩:=bl 2 m;refine aje _ ?_;rw[ke];unfold tU;by_cases h1:1<=l.length
 ·rw[aM h1,bm (show ¬ (l.length:Int) < 1 by omega)];refine bj rfl ?_;by_cases h2:l.length<=40
  ·rw[aM h2,bm (show ¬ (l.length:Int) > 40 by omega)];refine bj rfl ?_;rw[ao8];exact aeT (m+1) m (by omega) _ l.length (ke _ _) l (by omega) hw (m+1) 0 (by omega) (by omega)
  ·rw[bm h2,aM (show (l.length:Int) > 40 by omega)];rfl
 ·rw[bm h1,aM (show (l.length:Int) < 1 by omega)];rfl
def ar9 (l:List RT) (t:RT):QQ.mH ((l++[t]).map gJ)=(.own,(l++[t]).map gJ):=by
 cases l<;>rfl
def acR:∀l:List RT,aK (l.map gJ)=l.map gJ
 | []=>rfl
 | a::t=>by simp only[e9,aK,acR t];rfl
def Zx (m q:Nat) (z:aq Ib) (l:List RP) (hl:l.length<=1000):∀(k i:Nat),l.length - i < k->i<=l.length->
  ∃bb,(l=[]->bb=true)/\KI (T m) (q+1) k z ([],QQ.mH (((l.take i).map gT).map gJ),()) b (l.map gI) (ae (l.map gI).length) (i:Int)=some (.agg [sC [],lC (.im bb) 3 ((l.map gT).map gJ)],[])
 | 0,i,h,_=>by omega
 | k+1,i,h,hi=>by
  rw[al1,ke];by_cases af:i < l.length
  ·obtain⟨bb,FP,ih⟩:=Zx m q z l hl k (i+1) (by omega) (by omega);refine⟨bb,FP,?_⟩;rw[ke,sq,gE af,N9,eF,e9,vy,ar9] at ih;refine dz (vN af) (fZ (v:=(l[i].fr,l[i].to,(l[i].t,l[i].ms.map eH),())) rfl (Qv af) (by simp[gI]) rfl ?_);dsimp only;generalize l[i]=p at ih ⊢;have fin:∀(x:aq aeg) (kd:Int) (pr:BB),gT p=⟨kd,pr,p.t,p.ms⟩->
     Dl (T m) (q+1) k (q+1) z ([],QQ.mH (((l.take i).map gT).map gJ),()) b (l.map gI) (l.length:Int) (i:Int) x (kd,pr,((.im p.t),p.ms.map eH),())=some (.agg [sC [],lC (.im bb) 3 ((l.map gT).map gJ)],[]):=by
    intro x kd pr hg;rw[al2,wI i];rw[hg] at ih;have hlen:((l.take i).map gT).length=i:=by simp;omega
    generalize (l.take i).map gT=R at ih hlen ⊢;cases R with
    | nil=>exact xe (xe (eI rfl ih))
    | cons r R=>
     refine mG (xe (eI (QQ.room (by simp only[QQ.mH];simp at hlen ⊢;omega) (by omega)) ?_));rw[sr,e9,eF] at ih;exact ih
   unfold gT at fin;cases h1:p.fr==[] with
   | false=>
    refine dz rfl (fin _ _ _ ?_);rw[show jc p=false by unfold jc;rw[h1];rfl];rfl
   | true=>
   refine bj rfl ?_;cases h2:p.to==[] with
   | false=>
    refine dz rfl (fin _ _ _ ?_);rw[show jc p=false by unfold jc;rw[h1,h2];rfl];rfl
   | true=>
   refine bj rfl ?_;rw[ke];cases h3:p.ms with
   | nil=>
    rw[h3] at fin;refine bj rfl (fin _ _ _ ?_);rw[show jc p=true by unfold jc;rw[h1,h2,h3];rfl];rfl
   | cons x r=>
    rw[h3] at fin;refine dz (aM (by simp<;>omega)) (fin _ _ _ ?_);rw[show jc p=false by unfold jc;rw[h1,h2,h3];rfl];rfl
  ·obtain rfl:i=l.length:=by omega
   refine⟨l.isEmpty,λh=>by rw[h];rfl,bj (vO af) ?_⟩;rw[ES];cases l with
   | nil=>rfl
   | cons p l=>
    refine mG (eI (QQ.g1 (by simp[QQ.mH])) (eI (QQ.g2 _) ?_));simp only[zB,zW,zM,dZ,QQ.mH,e9];rw[<-e9,<-e9,acR];rfl
def akF (hm:1100<=m) {nm:BB} {rs:RR} {l:List RP} (hl:l.length<=1000) :
  ∃bb,T m 111 [.agg [sC nm,lC (.im b2) 1 rs,lC (.im b) 3 (l.map gI)]] []=some (.agg [sC [],lC (.im bb) 3 ((l.map gT).map gJ)],[]):=by
 obtain⟨m,rfl⟩:=bl 2 m;obtain⟨bb,_,h⟩:=Zx (b:=b) (m+1) m ([],((.im true),[]),()) l hl (m+1) 0 (by omega) (by omega);exact⟨bb,ahj _ h⟩
def gms (p:RP):(gT p).ms=p.ms:=by unfold gT;cases jc p<;>rfl
def Zw (m q:Nat) (hM:M+1200<=m) {nm:BB} {rs:List BB} (kU:rs.length<=5) {l:List RP} (hl:l.length<=24) (hw:∀p∈l,wM M p.ms):∀(k i:Nat),l.length - i < k->i<=l.length->
  GO (T m) (q+1) k (nm,(b2,rs.map aE),(b,l.map gI),()) b (l.map gI) (ae (l.map gI).length) (i:Int)=some (.one (bC ((l.drop i).all (rQ rs)&&tU (l.map gT))),[])
 | 0,i,h,_=>by omega
 | k+1,i,h,hi=>by
  rw[alX,ke];by_cases af:i < l.length
  ·have ih:=Zw m q hM (nm:=nm) kU hl hw k (i+1) (by omega) (by omega);rw[ke] at ih;rw[ku af,vw];refine dz (vN af) (fZ (v:=(l[i].fr,l[i].to,(l[i].t,l[i].ms.map eH),())) rfl (Qv af) (by simp[gI]) rfl ?_);dsimp only;rw[wI i,ih];generalize l[i]=p;have mid:jc p=false->GQ (T m) (q+1) k (q+1) (nm,(b2,rs.map aE),(b,l.map gI),()) b (l.map gI) (l.length:Int) (i:Int) (p.fr,p.to,(p.t,p.ms.map eH),())=some (.one (bC (rQ rs p&&(l.drop (i+1)).all (rQ rs)&&tU (l.map gT))),[]):=by
    intro he;rw[alY,wI i,ih];unfold rQ;rw[he,xo];refine iM (QP (by omega) (by omega)) ?_;dsimp only;cases rs.contains p.fr with
    | false=>rfl
    | true=>
    refine bj rfl (iM (QP (by omega) (by omega)) ?_);dsimp only;cases rs.contains p.to with
    | false=>rfl
    | true=>
    refine bj rfl ?_;cases p.fr==p.to<;>simp
   have ln:(ae (p.ms.map eH).length==(0:Int))=p.ms.isEmpty:=by rw[abt];cases p.ms<;>rfl
   rw[ln];cases h1:p.fr==[] with
   | false=>exact bj rfl (mid (by unfold jc;rw[h1];rfl))
   | true=>
   refine dz rfl ?_;cases h2:p.to==[] with
   | false=>exact bj rfl (mid (by unfold jc;rw[h1,h2];rfl))
   | true=>
   refine dz rfl ?_;cases h3:p.ms.isEmpty with
   | false=>exact bj rfl (mid (by unfold jc;rw[h1,h2,h3];rfl))
   | true=>
    refine dz rfl ?_;have:rQ rs p=true:=by unfold rQ jc;rw[h1,h2,h3];rfl
    rw[this,zu]
  ·rw[nC (by omega),Om,zu];refine bj (vO af) ?_;obtain⟨bb,hg⟩:=akF (m:=m) (b:=b) (b2:=b2) (nm:=nm) (rs:=rs.map aE) (by omega) (show l.length<=1000 by omega);refine Ez (v:=([],(bb,(l.map gT).map gJ),())) hg (by rfl) ?_;refine iM (NO (M:=M) (by omega) λt ht=>?_) rfl;obtain⟨p,hp,rfl⟩:=kJ.1 ht;rw[gms];exact hw p hp
def Zy (m q:Nat) (hM:M+1200<=m) (hq:30<=q) {nm:BB} {rs:List BB} (kU:rs.length<=5) {l:List RP} (hl:l.length<=24) (hw:∀p∈l,wM M p.ms):∀(k i:Nat),rs.length - i < k->i<=rs.length->
  KG (T m) (q+1) k (nm,(b2,rs.map aE),(b,l.map gI),()) b2 (rs.map aE) (ae (rs.map aE).length) (i:Int)=some (.one (bC ((rs.drop i).all cq&&(l.all (rQ rs)&&tU (l.map gT)))),[])
 | 0,i,h,_=>by omega
 | k+1,i,h,hi=>by
  rw[alZ,ke];by_cases af:i < rs.length
  ·have ih:=Zy m q hM hq (nm:=nm) kU hl hw k (i+1) (by omega) (by omega);rw[ke] at ih;rw[ku af,vw];refine dz (vN af) (fZ (v:=(rs[i],())) rfl (Zs af) (by simp) rfl ?_);refine iM (wJ m (by omega) rs[i]) ?_;dsimp only;cases cq rs[i] with
   | false=>rfl
   | true=>
    refine bj rfl ?_;rw[wI i,zu];exact ih
  ·rw[nC (by omega),Om,zu];refine bj (vO af) ?_;have:=Zw m q hM (nm:=nm) (b:=b) (b2:=b2) kU hl hw (q+1) 0 (by omega) (by omega);rw[su] at this;exact this
def Zv (hM:M+1300<=m) {nm:BB} {rs:List BB} {l:List RP} (hw:∀p∈l,wM M p.ms):T m 55 [.agg [sC nm,lC (.im b2) 1 (rs.map aE),lC (.im b) 3 (l.map gI)]] []=some (.one (bC (wU nm rs l)),[]):=by
 obtain⟨m,rfl⟩:=bl 2 m;rw[<-aqx];refine ahi _ (iM (wJ (m+1) (by omega) nm) ?_);dsimp only;rw[ke,ke];cases cq nm with
 | false=>rfl
 | true=>
 refine bj rfl ?_;by_cases h1:2<=rs.length
 ·rw[aM h1,bm (show ¬ (rs.length:Int) < 2 by omega)];refine bj rfl ?_;by_cases h2:rs.length<=5
  ·rw[aM h2,bm (show ¬ (rs.length:Int) > 5 by omega)];refine bj rfl (iM (acm (by omega) (by omega)) ?_);dsimp only;cases rH [] rs with
   | false=>rfl
   | true=>
   refine bj rfl ?_;by_cases h3:l.length<=24
   ·rw[aM h3,bm (show ¬ (l.length:Int) > 24 by omega)];refine bj rfl ?_;rw[al0];exact Zy (m+1) m (by omega) (by omega) h2 h3 hw (m+1) 0 (by omega) (by omega)
   ·rw[bm h3,aM (show (l.length:Int) > 24 by omega)];rfl
  ·rw[bm h2,aM (show (rs.length:Int) > 5 by omega)];rfl
 ·rw[bm h1,aM (show (rs.length:Int) < 2 by omega)];rfl
def adN (q:Nat) (hM:M+1200<=q) {nm:BB} {rs:List BB} (kU:rs.length<=5) {l:List RP} (hl:l.length<=24) (hw:∀p∈l,wM M p.ms):∀(k i:Nat),l.length - i < k->i<=l.length->
  Li (T q) q k (nm,(b2,rs.map aE),(b,l.map gI),()) (i:Int)=some (.one (bC ((l.drop i).all (pT rs l.length))),[])
 | 0,i,h,_=>by omega
 | k+1,i,h,hi=>by
  rw[anh,ke];by_cases af:i < l.length
  ·have ih:=adN q hM (nm:=nm) kU hl hw k (i+1) (by omega) (by omega);obtain⟨r,hr⟩:=bl 1 q;have e1:AJ (T q) q k q=AJ (T q) q k (r+1):=by rw[<-hr]
   have e2:Dw (T q) q k q=Dw (T q) q k (r+1):=by rw[<-hr]
   rw[ku af,vw];have ha:=hw _ (bU af);refine dz (vN af) (fZ (v:=(l[i].fr,l[i].to,(l[i].t,l[i].ms.map eH),())) rfl (Qv af) (by simp[gI]) rfl ?_);dsimp only;generalize l[i]=p at ha ⊢;have en:∀a2,Dw (T q) q k q (nm,(b2,rs.map aE),(b,l.map gI),()) (i:Int) a2=some (.one (bC ((l.drop (i+1)).all (pT rs l.length))),[]):=by
    intro a2;rw[e2,anj,wI i];exact ih
   have mid:jc p=false->AJ (T q) q k q (nm,(b2,rs.map aE),(b,l.map gI),()) (i:Int) (p.fr,p.to,(p.t,p.ms.map eH),())=some (.one (bC (pT rs l.length p&&(l.drop (i+1)).all (pT rs l.length))),[]):=by
    intro he;rw[e1,ani];unfold pT;rw[he,xo];dsimp only;cases h0:p.fr==p.to with
    | true=>simp
    | false=>
    refine bj rfl (iM (Nk (by omega) (by omega)) ?_);dsimp only;cases rs.contains p.fr with
    | false=>rfl
    | true=>
    refine bj rfl (iM (Nk (by omega) (by omega)) ?_);dsimp only;cases rs.contains p.to with
    | false=>rfl
    | true=>
    refine bj rfl ?_;rw[ke];refine iM (aqK (by have:=ha.1;omega) ha.2.1 λa h=>⟨by have:=(ha.2.2 a h).1;omega,(ha.2.2 a h).2⟩) ?_;dsimp only;cases sD (l.length:Int) p.ms with
    | false=>rfl
    | true=>exact bj rfl (en _)
   have ln:(ae (p.ms.map eH).length==(0:Int))=p.ms.isEmpty:=by rw[abt];cases p.ms<;>rfl
   rw[ln];cases h1:p.fr==[] with
   | false=>exact bj rfl (mid (by unfold jc;rw[h1];rfl))
   | true=>
   refine dz rfl ?_;cases h2:p.to==[] with
   | false=>exact bj rfl (mid (by unfold jc;rw[h1,h2];rfl))
   | true=>
   refine dz rfl ?_;cases h3:p.ms.isEmpty with
   | false=>exact bj rfl (mid (by unfold jc;rw[h1,h2,h3];rfl))
   | true=>
    refine dz rfl ?_;have:pT rs l.length p=true:=by unfold pT jc;rw[h1,h2,h3];rfl
    rw[this,zu];exact en _
  ·rw[nC (by omega)];exact bj (vO af) rfl
def adO (q:Nat) (hM:M+1200<=q) {nm:BB} {rs:List BB} (kU:rs.length<=5) {l:List RP} (hl:l.length<=24) (hw:∀p∈l,wM M p.ms):∀(k i:Nat),rs.length - i < k->i<=rs.length->
  Lj (T q) q k (nm,(b2,rs.map aE),(b,l.map gI),()) (i:Int)=some (.one (bC ((rs.drop i).all cq&&l.all (pT rs l.length))),[])
 | 0,i,h,_=>by omega
 | k+1,i,h,hi=>by
  rw[ank,ke];by_cases af:i < rs.length
  ·have ih:=adO q hM (nm:=nm) kU hl hw k (i+1) (by omega) (by omega);rw[ku af,vw];refine dz (vN af) (fZ (v:=(rs[i],())) rfl (Zs af) (by simp) rfl ?_);refine iM (Ei q (by omega) rs[i]) ?_;dsimp only;cases cq rs[i] with
   | false=>rfl
   | true=>
    refine bj rfl ?_;rw[wI i,zu];exact ih
  ·rw[nC (by omega),Om,zu];refine bj (vO af) ?_;have:=adN q hM (nm:=nm) (b:=b) (b2:=b2) kU hl hw q 0 (by omega) (by omega);rw[su] at this;exact this
def adM (hM:M+1300<=m) {nm:BB} {rs:List BB} {l:List RP} (hw:∀p∈l,wM M p.ms):T m 26 [.agg [sC nm,lC (.im b2) 1 (rs.map aE),lC (.im b) 3 (l.map gI)]] []=some (.one (bC (wU nm rs l)),[]):=by
 obtain⟨m,rfl⟩:=bl 2 m;unfold wU;refine ait _ (iM (Ei (m+1) (by omega) nm) ?_);dsimp only;rw[ke,ke];cases cq nm with
 | false=>rfl
 | true=>
 refine bj rfl ?_;by_cases h1:2<=rs.length
 ·rw[aM h1,bm (show ¬ (rs.length:Int) < 2 by omega)];refine bj rfl ?_;by_cases h2:rs.length<=5
  ·rw[aM h2,bm (show ¬ (rs.length:Int) > 5 by omega)];refine bj rfl (iM (aq3 (by omega) (by omega)) ?_);dsimp only;cases rH [] rs with
   | false=>rfl
   | true=>
   refine bj rfl ?_;by_cases h0:1<=l.length
   ·rw[aM h0,bm (show ¬ (l.length:Int) < 1 by omega)];refine bj rfl ?_;by_cases h3:l.length<=24
    ·rw[aM h3,bm (show ¬ (l.length:Int) > 24 by omega)];refine bj rfl ?_;rw[anl];exact adO (m+1) (by omega) h2 h3 hw (m+1) 0 (by omega) (by omega)
    ·rw[bm h3,aM (show (l.length:Int) > 24 by omega)];rfl
   ·rw[bm h0,aM (show (l.length:Int) < 1 by omega)];rfl
  ·rw[bm h2,aM (show (rs.length:Int) > 5 by omega)];rfl
 ·rw[bm h1,aM (show (rs.length:Int) < 2 by omega)];rfl
end
def M9 (a:QQ.AM):RA:=⟨a.eK,a.kd,a.nm,(a.nx:Int)⟩
def adl (p:QQ.PT):RP:=⟨p.fr,p.to,p.t,p.ms.map M9⟩
def Pq (l:List QQ.PT):l.map QQ.cP=(l.map adl).map gI:=by
 rw[IJ];refine N8 λp _=>?_
 show [_,_,D.sl (.im p.t) 4 (p.ms.map QQ.cM)]=[_,_,D.sl (.im p.t) 4 ((p.ms.map M9).map eH)]
 rw[IJ];rfl
def XP {k:Int} {x:BB} (h:(k,x)∈QQ.jb):x.length<=100:=by
 simp only[QQ.jb,ik,uc,ub,iB] at h;rcases h with⟨rfl,rfl⟩ | ⟨rfl,rfl⟩ | ⟨rfl,rfl⟩ | ⟨rfl,rfl⟩ | ⟨rfl,rfl⟩ | ⟨rfl,rfl⟩ | ⟨rfl,rfl⟩ | ⟨rfl,rfl⟩ | ⟨rfl,rfl⟩ | ⟨rfl,rfl⟩ | ⟨rfl,rfl⟩ | ⟨rfl,rfl⟩ | ⟨rfl,rfl⟩<;>decide
def T8 {many:Nat} {ps:List QQ.PT} (h:QQ.oP many ps):∀p∈ps.map adl,wM 500 p.ms:=by
 intro p hp;obtain⟨x,hx,rfl⟩:=kJ.1 hp;have ms:x.ms.length<=10/\∀a∈x.ms,a.nm.length<=100:=by
  rcases h.2.2.2.2 x hx with⟨_,_,e⟩ | ⟨_,_,_,_,_,_,_,e⟩
  ·rw[e];exact⟨by simp,λa ha=>by cases ha⟩
  ·exact⟨by have:=e.2.1;omega,λa ha=>XP (e.2.2.2 a ha).2.1⟩
 refine⟨by show (x.ms.map M9).length+200<=500;rw[cX];omega,by show (x.ms.map M9).length<=_;rw[cX];omega,λa ha=>?_⟩;obtain⟨y,hy,rfl⟩:=kJ.1 ha;have:=ms.2 y hy;exact⟨by show y.nm.length+200<=500;omega,by show y.nm.length<=_;omega⟩
def HX (M:Nat):QQ.eV M=((List.range M).map QQ.cK).map λs=>[D.str s]:=by simp[QQ.eV]
end
section
open Go Go.ax QQ
def TD (L:LR):Prop:=1<=L.ts.length/\L.ts.length<=100/\∀t∈L.ts,HE L.ts.length t
def ap0 {many:Nat} {ps:List PT} (h:oP many ps):yL ps:=by
 refine⟨by have:=h.2.2.2.1;omega,λp hp=>?_⟩;rcases h.2.2.2.2 p hp with⟨_,_,h3⟩ | ⟨k,m,_,_,_,_,_,h3⟩
 ·rw[h3];exact⟨by simp,λa ha=>by cases ha⟩
 ·exact⟨by have:=h3.2.1;omega,λa ha=>(h3.2.2.2 a ha).2.2⟩
def apZ {many:Nat} {ps:List PT} (h:oP many ps) {role:BB} (hr:role≠[]) (x:Nat) (hx:je role ps x):∃p,ps[x]? = some p/\p.ms≠[]:=by
 obtain⟨p,hp,j9⟩:=hx;refine⟨p,hp,?_⟩;rcases h.2.2.2.2 p (ff hp) with⟨h1,h2,_⟩ | ⟨k,m,_,_,_,_,_,h3⟩
 ·rw[h1,h2] at j9;have:([]==role)=false:=by cases role with | nil=>exact absurd rfl hr | cons=>rfl
  rw[this] at j9;cases j9
 ·have:=h3.1;intro h0;rw[h0] at this;simp at this
section
variable {m:Nat} {Q:V->List (List C)->Prop}
def afu (hm:1900<=m) {many:Nat} {ps:List PT} (hP:oP many ps) {nm:BB} {rb pb:Bool} {K:bu.T->OR} (h:∀b,Wp (K (b,())) Q):Wp (Jd (T m) nm rb (eV many) pb (ps.map cP) K) Q:=by
 rw[Pq,HX];exact jk (adM (M:=500) (by omega) (T8 hP)) rfl (h _)
def OB (nf:BB) (K:yY.T->OR) (Q:V->List (List C)->Prop):Prop:=(∀x err,err≠0->Wp (K ((x,err,()),())) Q)/\∀L:LR,TD L->L.nm=nf->Wp (K (((L.nm,(L.tb,L.ts.map cN),()),0,()),())) Q
def adF (q:Nat) (hq:570<=q) {k:PK} (hk:PH k) (a0:aq nT) (nm:BB) {K:yY.T->OR} (h:OB nm K Q):∀(c i:Nat) (t:Tag) (bf:List (Bool×List Nat)) (ts:List TN),45 - i < c->i<=bf.length->SH k t bf->ts.length=i->ts≠[]->(∀x∈ts,HE bf.length x)->
  Wp (Lk (T q) q c a0 (WB k t bf) (nm,ts.map cN,()) (i:Int)) (J yY K Q)
 | 0,i,t,bf,ts,hc,hi,hS,_,_,_=>by have:=hS.ln;omega
 | c+1,i,t,bf,ts,hc,hi,hS,hts,aD,bh=>by
  have CH:=hS.ln;have C6:1<=ts.length:=by cases ts with | nil=>exact absurd rfl aD | cons=>simp
  have uF:∀a:Bool×List Nat,1<=(kL a).length/\dI [.im 1] (List.take 1 (List.drop 0 (kL a)))=some ((a.1,a.2.map aV),()):=λa=>⟨by simp[kL],rfl⟩
  refine aG ano ?_;have ht:t = .own:=by
   rcases hS.no with ht | ⟨_,hn⟩
   ·exact ht
   ·rw[hn] at hi;simp at hi;omega
  subst ht;refine ij (aj (λg1=>?_) (λg1=>?_))
  ·have af:i < bf.length:=bW g1;have hs:=hS.ok _ (bU af);refine nX (enc:=kL) (f:=λa=>((a.1,a.2.map aV),())) uF rfl (gE af) ?_;refine afE (m:=q) (by omega) hk hS hs.1 hs.2 ⟨λx y err he=>?_,λtn t' jz vS hx RC=>?_⟩
   ·exact cF (by simpa using he) (aB (aH rfl (h.1 _ _ he)))
   ·refine eW rfl (az (gW (by simp;omega) (by omega)) ?_);obtain⟨y,hy⟩:=hx;rw[wI i];have lQ:bf.length<=jz.length:=by rw[hy];simp
    have:=adF q hq hk a0 nm h c (i+1) t' jz (ts++[tn]) (by omega) (by omega) vS (by simp;omega) (by simp)
     (by
       intro x hx
       rw[dk] at hx
       rcases hx with hx | hx
       · rcases bh x hx with h1 | ⟨h1, h2, h3, h4⟩
         · exact .inl h1
         · exact .inr ⟨h1, h2, h3, λa ha => by have := h4 a ha; omega⟩
       · simp at hx; subst hx; exact RC)
    rw[eF] at this;exact this
  ·have fB:i=bf.length:=by
    have g2:¬ (i:Int) < ae (bf.map kL).length:=lj g1;rw[cm,cX] at g2;omega
   refine az ?_ (az (by simp) (aB ?_))
   ·cases ts with
    | nil=>exact absurd rfl aD
    | cons=>simp
   ·refine aH (x:=(((nm,(false,ts.map cN),()),0,()),())) ?_ (h.2 ⟨nm,false,ts⟩ ⟨C6,by show ts.length<=100;omega,by rw[<-fB,<-hts] at bh;exact bh⟩ rfl);show jH yY (.ao [.agg [sC nm,lC (.im false) 3 (aK (whole (ts.map cN)))],_],_)=_;rw[dZ,acM];rfl
def aq1 (q:Nat) (hq:570<=q) {k:PK} (hk:PH k) (a0:aq nT) (nm:BB) {K:yY.T->OR} (h:OB nm K Q) {t:Tag} {bf:List (Bool×List Nat)} (hS:SH k t bf) (hp:0 < bf.length) :
  Wp (G6 (T q) q q a0 (WB k t bf) (nm,(true,[]),()) 0) (J yY K Q):=by
 obtain⟨r,hr⟩:=bl 1 q;have e0:G6 (T q) q q=G6 (T q) q (r+1):=by rw[<-hr]
 have uF:∀a:Bool×List Nat,1<=(kL a).length/\dI [.im 1] (List.take 1 (List.drop 0 (kL a)))=some ((a.1,a.2.map aV),()):=λa=>⟨by simp[kL],rfl⟩
 rw[e0];refine aG anm ?_;have ht:t = .own:=by
  rcases hS.no with ht | ⟨_,hn⟩
  ·exact ht
  ·rw[hn] at hp;simp at hp
 subst ht;refine ij (cF (aM (by show (0:Int) < ae (bf.map kL).length;rw[cm];simp;omega)) ?_);have hs:=hS.ok _ (bU hp);refine nX (enc:=kL) (f:=λa=>((a.1,a.2.map aV),())) uF (i:=0) rfl (gE hp) ?_;refine afE (m:=q) (by omega) hk hS hs.1 hs.2 ⟨λx y err he=>?_,λtn t' jz vS hx RC=>?_⟩
 ·exact cF (by simpa using he) (aB (aH rfl (h.1 _ _ he)))
 ·obtain⟨y,hy⟩:=hx;have lQ:bf.length<=jz.length:=by rw[hy];simp
  refine eW rfl (az rfl ?_);exact adF q hq hk a0 nm h r 1 t' jz [tn] (by omega) (by omega) vS rfl (by simp) (by intro x hx;simp at hx;subst hx;exact RC)
def afx (hm:2600<=m) {many:Nat} {ps:List PT} (hP:oP many ps) {nm:BB} (hn:nm∈Hu) (oA:nm.length<=20) {rb pb:Bool} {i:Nat} (hi:i < many) {K:yY.T->OR} (h:OB (nm++[46]++cK i) K Q):Wp (Pm (T m) nm rb (eV many) pb (ps.map cP) (cK i) K) Q:=by
 obtain⟨m,rfl⟩:=bT hm;have h4:=hP.2.1;refine bI aiu ?_;refine afu (m:=m) (by omega) hP λb=>aj (λg=>aB (aH rfl (h.1 _ 800 (by decide)))) (λg=>?_)
 refine jk (x:=(true,())) (by rw[HX];exact(Nk (by simp;omega) (by simp;omega)).trans (by rw[show ((List.range many).map cK).contains (cK i)=true by simp;exact⟨i,hi,rfl⟩])) rfl (eW rfl ?_);obtain⟨r,hr⟩:=bl 1 m;have e1:Ll (T m) m m=Ll (T m) m (r+1):=by rw[<-hr]
 rw[e1];refine aG anp ?_;have hk:PH ⟨nm,rb,eV many,pb,ps,cK i⟩:=⟨ap0 hP,apZ hP (by simp[cK])⟩
 have hS:SH ⟨nm,rb,eV many,pb,ps,cK i⟩ (.im true) []:=⟨.inr ⟨rfl,rfl⟩,λh0=>(by cases h0),by simp,λx hx=>(by cases hx)⟩
 refine Vj (m:=m) (k:=⟨nm,rb,eV many,pb,ps,cK i⟩) (fr:=[0]) (by omega) hk hS (by simp) ⟨λerr he=>?_,λt' jz j vS hx hj=>?_⟩
 ·exact cF (by simpa using he) (aB (aH rfl (h.1 _ _ he)))
 ·refine eW rfl (bE (by show nm.length+1<=_;omega) (bE (by show (nm++[46]).length+(cK i).length<=_;simp[cK];omega) ?_));exact aq1 m (by omega) hk _ _ h vS (by omega)
def HC (nm:BB) (L:LR):Prop:=TD L/\∃i,i < 4/\L.nm=nm++[46]++cK i
def Wi (nm:BB) (n:Nat) (K:H8.T->OR) (Q:V->List (List C)->Prop):Prop:=∀b (Ls:List LR) z err,Ls.length<=n->(∀L∈Ls,HC nm L)->Wp (K (((b,Ls.map lN),z,err,()),())) Q
def acJ:∀l:List LR,aK (l.map lN)=l.map lN
 | []=>rfl
 | a::t=>by simp only[e9,aK,acJ t];rfl
def WJ (q:Nat) (hq:2610<=q) {many:Nat} {ps:List PT} (hP:oP many ps) {nm:BB} (hn:nm∈Hu) (oA:nm.length<=20) {rb pb:Bool} {K:H8.T->OR} (h:Wi nm many K Q):∀(c i:Nat) (Ls:List LR),many - i < c->i<=many->Ls.length=i->(∀L∈Ls,HC nm L)->
  Wp (Lf (T q) q c (nm,(rb,eV many),(pb,ps.map cP),()) (Ls.map lN) (i:Int)) (J H8 K Q)
 | 0,i,Ls,hc,_,_,_=>by omega
 | c+1,i,Ls,hc,hi,hl,bh=>by
  have h4:=hP.2.1;refine aG anc (aj (λg1=>?_) (λg1=>?_))
  ·have af:i < many:=by
    have g2:(i:Int) < ae (eV many).length:=sn g1;rw[cm,tJ] at g2;omega
   refine aG (fZ (v:=(cK i,())) rfl (pU af) (by simp) rfl rfl) ?_;refine afx (m:=q) (by omega) hP hn oA af ⟨λx err he=>?_,λL hL QH=>?_⟩
   ·exact cF (by simpa using he) (aB (aH rfl (h true [] _ _ (by simp) (λL hL=>by cases hL))))
   ·refine eW rfl (az (gW (by simp;omega) (by omega)) ?_);rw[wI i];have:=WJ q hq hP hn oA h c (i+1) (Ls++[L]) (by omega) (by omega) (by simp;omega) (by intro x hx;rw[dk] at hx;rcases hx with hx | hx;exact bh x hx;simp at hx;subst hx;exact⟨hL,i,by omega,QH⟩) (rb:=rb) (pb:=pb);rw[eF] at this;exact this
  ·refine az (by simp) ?_;rw[dZ,acJ];exact aB (aH rfl (h false Ls 0 0 (by omega) bh))
def Ve (hm:2620<=m) {many:Nat} {ps:List PT} (hP:oP many ps) {nm:BB} (hn:nm∈Hu) (oA:nm.length<=20) {rb pb:Bool} {K:H8.T->OR} (h:Wi nm many K Q):Wp (BZ (T m) nm rb (eV many) pb (ps.map cP) K) Q:=by
 obtain⟨m,rfl⟩:=bT hm;have h2:=hP.1;have h4:=hP.2.1;refine bI aiq ?_;refine afu (m:=m) (by omega) hP λb=>aj (λg=>aB (aH rfl (h true [] _ _ (by simp) (λL hL=>by cases hL)))) (λg=>?_)
 obtain⟨r,hr⟩:=bl 1 m;have e0:Le (T m) m m=Le (T m) m (r+1):=by rw[<-hr]
 rw[e0];refine aG anb (cF (aM (by show (0:Int) < ae (eV many).length;rw[cm,tJ];omega)) ?_);refine aG (fZ (v:=(cK 0,())) (i:=0) rfl (pU (by omega)) (by simp) rfl rfl) ?_;refine afx (m:=m) (by omega) hP hn oA (by omega) ⟨λx err he=>?_,λL hL QH=>?_⟩
 ·exact cF (by simpa using he) (aB (aH rfl (h true [] _ _ (by simp) (λL hL=>by cases hL))))
 ·refine eW rfl (az rfl ?_);exact WJ m (by omega) hP hn oA h r 1 [L] (by omega) (by omega) rfl (by intro x hx;simp at hx;subst hx;exact⟨hL,0,by omega,QH⟩)
end
end
section
open Go Go.ax QQ
structure PS where
 kd:Int
 nm:BB
 pr:BB
 lb:BB
 pc:BB
 tm:Int
 gt:Bool
 ag:List Int
 ct:Bool
 cs:List CR
 wb:Bool
 ws:List WR
 nx:Int
def dA (s:PS):List D:=[.int .i64 s.kd,.str s.nm,.str s.pr,.str s.lb,.str s.pc,.int .i64 s.tm,.sl (.im s.gt) 1 (s.ag.map bN),.sl (.im s.ct) 3 (s.cs.map eM),.sl (.im s.wb) 3 (s.ws.map cW),.int .i64 s.nx]
def mD (s:PS):Prop:=s.ag.length<=100/\s.cs.length<=100/\(∀c∈s.cs,c.ag.length<=100)/\s.ws.length<=100
structure PC where
 nm:BB
 pb:Bool
 pm:List (BB×Int×BB)
 tb:Bool
 tm:List TM
 sb:Bool
 ss:List PS
def eG (x:BB×Int×BB):List D:=[.str x.1,.int .i64 x.2.1,.str x.2.2]
def HS:∀a:BB×Int×BB,0+3<=(eG a).length/\dI Ep (List.take 3 (List.drop 0 (eG a)))=some ((λx=>(x.1,x.2.1,x.2.2,())) a):=(λa=>⟨by simp[eG],rfl⟩)
def fA (p:PC):List D:=[.str p.nm,.sl (.im p.pb) 3 (p.pm.map eG),.sl (.im p.tb) 6 (p.tm.map bH),.sl (.im p.sb) 10 (p.ss.map dA)]
def adn:∀a:PC,1+1<=(fA a).length/\dI [DS.im 3] (List.take 1 (List.drop 1 (fA a)))=some ((λp=>((p.pb,p.pm.map eG),())) a):=(λa=>⟨by simp[fA],rfl⟩)
structure jN (p:PC):Prop where
 n1:p.nm.length<=40
 p1:p.pm.length<=2
 p2:∀x∈p.pm,(x.2.1,x.2.2)∈jb/\(x.1=[99]\/x.1=[110])
 t1:p.tm.length<=40000000
 t2:iW p.tm
 s0:1<=p.ss.length
 s1:p.ss.length<=40000000
 s2:∀s∈p.ss,mD s
def MW:∀l:List WR,aK (l.map cW)=l.map cW
 | []=>rfl
 | a::t=>by simp only[e9,aK,MW t];rfl
def acV:∀l:List TM,aK (l.map bH)=l.map bH
 | []=>rfl
 | a::t=>by simp only[e9,aK,acV t];rfl
def acO:∀l:List (BB×Int×BB),aK (l.map eG)=l.map eG
 | []=>rfl
 | a::t=>by simp only[e9,aK,acO t];rfl
def nk (s:SR):Prop:=(∃l:List Int,s.ag=l.map bN/\l.length<=100)/\(∃l:List CR,s.cs=l.map cO/\l.length<=100/\∀c∈l,c.ag.length<=100)/\(∃l:List WR,s.ws=l.map cW/\l.length<=100)/\(s.ct = .own\/s.cs=[])
def acb {s:SR} (h:iK s):nk s:=⟨h.1,h.2.1,h.2.2.1,h.2.2.2.2⟩
def HG (t:Tag) (k:Nat) {r r':RR} (h:aK r=r') (h2:t≠.own->r=r'):∃b,lW (.sl t k r) = .sl (.im b) k r':=by
 cases t with
 | own=>exact⟨false,by rw[<-h];rfl⟩
 | im b=>exact⟨b,by rw[<-h2 (by simp)];rfl⟩
def acT:∀l:List SR,(∀s∈l,nk s)->∃pl:List PS,aK (l.map cS)=pl.map dA/\pl.length=l.length/\∀p∈pl,mD p
 | [],_=>⟨[],rfl,rfl,λp hp=>(by cases hp)⟩
 | s::t,h=>by
  obtain⟨pl,h1,h2,h3⟩:=acT t (λx hx=>h x (jC _ hx));obtain⟨⟨ag,e1,l1⟩,⟨cs,e2,l2,l2'⟩,⟨ws,e3,l3⟩,hc⟩:=h s jD;obtain⟨gb,g1⟩:=HG s.gt 1 (HJ ag) λ_=>rfl
  obtain⟨wb,g3⟩:=HG s.wt 3 (MW ws) λ_=>rfl
  obtain⟨cb,g2⟩:=HG s.ct 3 (acN cs) λhn=>by
   rcases hc with hc | hc
   ·exact absurd hc hn
   ·rw[e2] at hc;cases cs with
    | nil=>rfl
    | cons=>simp at hc
  refine⟨⟨s.kd,s.nm,s.pr,s.lb,s.pc,s.tm,gb,ag,cb,cs.map λc=>{ c with gt:=false },wb,ws,s.nx⟩::pl,?_,by simp[h2],?_⟩
  ·simp only[e9,aK,h1];show [_,_,_,_,_,_,lW (.sl s.gt 1 s.ag),lW (.sl s.ct 3 s.cs),lW (.sl s.wt 3 s.ws),_]::_=_;rw[e1,e2,e3,g1,g2,g3];rfl
  ·intro p lz;rcases ik.1 lz with rfl | lz
   ·refine⟨l1,by simpa using l2,λc hc=>?_,l3⟩;simp only[kJ] at hc;obtain⟨y,hy,rfl⟩:=hc;exact l2' y hy
   ·exact h3 p lz
structure PO where
 nm:BB
 pt:Tag
 pm:List (BB×Int×BB)
 tt:Tag
 tm:List TM
 ss:List SR
def gB (p:PO):List D:=[.str p.nm,.sl p.pt 3 (p.pm.map eG),.sl p.tt 6 (p.tm.map bH),.sl .own 10 (p.ss.map cS)]
structure mC (S:SR->Prop) (p:PO):Prop where
 n1:p.nm.length<=40
 p1:p.pm.length<=2
 p2:∀x∈p.pm,(x.2.1,x.2.2)∈jb/\(x.1=[99]\/x.1=[110])
 t1:p.tm.length<=40000000
 t2:iW p.tm
 s0:1<=p.ss.length
 s1:p.ss.length<=40000000
 s2:∀s∈p.ss,S s
def acP:∀l:List PO,(∀p∈l,mC nk p)->∃pl:List PC,aK (l.map gB)=pl.map fA/\pl.length=l.length/\∀p∈pl,jN p
 | [],_=>⟨[],rfl,rfl,λp hp=>(by cases hp)⟩
 | p::t,h=>by
  obtain⟨pl,h1,h2,h3⟩:=acP t (λx hx=>h x (jC _ hx));have ho:=h p jD;obtain⟨ps,e1,e2,e3⟩:=acT p.ss ho.s2;obtain⟨pb,g1⟩:=HG p.pt 3 (acO p.pm) λ_=>rfl
  obtain⟨tb,g2⟩:=HG p.tt 6 (acV p.tm) λ_=>rfl
  refine⟨⟨p.nm,pb,p.pm,tb,p.tm,false,ps⟩::pl,?_,by simp[h2],?_⟩
  ·simp only[e9,aK,h1];show [_,lW (.sl p.pt 3 (p.pm.map eG)),lW (.sl p.tt 6 (p.tm.map bH)),D.sl (.im false) 10 (aK (p.ss.map cS))]::_=_;rw[g1,g2,e1];rfl
  ·intro x hx;rcases ik.1 hx with rfl | hx
   ·exact⟨ho.n1,ho.p1,ho.p2,ho.t1,ho.t2,by have:=ho.s0;show 1<=ps.length;omega,by have:=ho.s1;show ps.length<=_;omega,e3⟩
   ·exact h3 x hx
section
variable {m:Nat} {Q:V->List (List C)->Prop} {d:aq ah}
def PaK (K:Un.T->OR) (Q:V->List (List C)->Prop):Prop:=∀nm pm tt tm ss d',mC iK ⟨nm,.own,pm,tt,tm,ss⟩->cu d'->Wp (K ((nm,pm.map eG,(tt,tm.map bH),ss.map cS,()),d',())) Q
def Wv (K:ve.T->OR) (Q:V->List (List C)->Prop):Prop:=∀nm b pm tt tm ss d',mC iK ⟨nm,.im b,pm,tt,tm,ss⟩->cu d'->Wp (K ((nm,(b,pm.map eG),(tt,tm.map bH),ss.map cS,()),d',())) Q
def afs (hm:320<=m) {pb:Bool} {dB:List PR} (h0:dB≠[]) (h1:dB.length<=10) (h2:∀p∈dB,uY p) {nm:BB} (hn:nm.length<=20) {rb tb yb:Bool} {rs:List BB} {iw:RR} {Ls:List LR} {i:Nat} {L:LR} (hi:i < rs.length) (iu:∀s∈rs,s.length<=20) (hL:Ls[i]? = some L) (bh:TD L) {carry:BB} (hc:((5:Int),carry)∈jb) (hd:cu d) {K:Un.T->OR} (h:PaK K Q) :
  Wp (Pg (T m) pb (dB.map cJ) nm rb (rs.map λs=>[.str s]) tb iw yb (Ls.map lN) (i:Int) carry d K) Q:=by
 obtain⟨m,rfl⟩:=bT hm;refine bI ah4 ?_;refine aS (enc:=λs:BB=>[D.str s]) (f:=λs=>(s,())) (λa=>⟨by simp,rfl⟩) rfl (z7 hi) ?_;refine Iv (m:=m) (by omega) hn (iu _ (bU hi)) λs hs=>?_
 refine jV (m:=m) (n:=7) (by omega) (by omega) (by omega) hd λj d1 hj cA=>?_
 have hw:ak (9+(j:Int))=((9+j:Nat):Int):=iP;rw[hw];have hk:KH ⟨pb,dB,s,(.own,[(([99]:BB),(5:Int),carry),([110],1,[])].map eG),s,yb,Ls,(i:Int)⟩:=⟨h0,h1,h2,⟨i,L,rfl,hL,bh⟩⟩
 have hR:RL ⟨pb,dB,s,(.own,[(([99]:BB),(5:Int),carry),([110],1,[])].map eG),s,yb,Ls,(i:Int)⟩ L:=⟨⟨i,rfl,hL⟩,bh.1,bh.2.1,bh.2.2⟩
 have H:WH 0 (.im true) [] (.im true) [] 0 ((9+j:Nat):Int):=⟨.inr ⟨rfl,rfl⟩,.inr ⟨rfl,rfl⟩,by simp,by simp,(λi t ht=>by simp at ht),(λs hs=>by cases hs),⟨0,rfl,by omega⟩,by omega,by omega,(λh=>by cases h),(λh=>by cases h)⟩
 refine W8 5 (by omega) m 0 _ L (.im true) (.im true) [] [] 0 ((9+j:Nat):Int) d1 0 _ _ (by omega) (by decide) hk hR (by have:=bh.1;omega) H cA ?_;intro lh dT fq oM gV d' H' hx dD;have hB:0+Bd 5<=40000000:=by decide
 have qv:=H'.nt;have Gn:=H'.ns;have mu:=H'.se rfl;have uM:(fq.map cS)≠[]:=by simpa using mu
 have fin:∀t,Wp (K ((s,[(([99]:BB),(5:Int),carry),([110],1,[])].map eG,(t,dT.map bH),fq.map cS,()),d',())) Q:=λt=>
  h s [([99],5,carry),([110],1,[])] t dT fq d' ⟨hs,by simp,(by intro x hx;simp at hx;rcases hx with rfl | rfl;exact⟨hc,.inl rfl⟩;exact⟨by decide,.inr rfl⟩),by show dT.length<=_;omega,H'.kT,EP.2 mu,by show fq.length<=_;omega,H'.kS⟩ dD
 refine ij ?_;rcases H'.ot with ht | ⟨ht,_⟩<;>subst ht
 ·have Db:=H'.te rfl;have Ay:(dT.map bH)≠[]:=by simpa using Db
  exact ij (ij (az rfl (az (j7 Ay) (az (j7 uM) (cF rfl (cF (j7 Ay) (cF (j7 uM) (aB (aH rfl (fin .own))))))))))
 ·exact eL (ij (az rfl (az (j7 uM) (cF rfl (cF (j7 uM) (aB (aH rfl (fin (.im true)))))))))
def mK (pb:Bool) (dB:List PR):WK:=⟨pb,dB,[109,97,105,110],(.im true,[]),[],true,[],0⟩
def abK (q:Nat) (hq:200<=q) {pb:Bool} {dB:List PR} {n i N:Nat} (hN:N<=1000) (hi:i < n) (hn:n<=3) {tt st:Tag} {tm:List TM} {ss:List SR} {nz rm:Int} (H:WH N tt tm st ss nz rm) (hd:cu d) {p:PR} (hp:uY p) {ro:BB} (Aw:ro.length<=20) {e:BB} {x2:aq ah} {c1:Nat} {a3:aq fG} {aQ:Int} {K:ve.T->OR}
  (h:∀lh dT fq gV d',WH (N+3) lh dT .own fq nz gV->cu d'->Wp (G1 (T q) q x2 c1 pb (dB.map cJ) d' a3 (Ws (mK pb dB) lh dT fq nz gV) (n:Int) ((i+1:Nat):Int)) (J ve K Q)) :
  Wp (uQ (T q) q x2 c1 q pb (dB.map cJ) d a3 (W (mK pb dB) tt tm st ss nz rm) (n:Int) (i:Int) (p.nm,(p.rt,p.rs.map λs=>[.str s]),(p.pt,p.iw),()) ro e (aQ,[],[],[],[],-1,(true,[]),(true,[]),(true,[]),-1,())) (J ve K Q):=by
 obtain⟨r,hr⟩:=bl 1 q;have e1:uQ (T q) q x2 c1 q=uQ (T q) q x2 c1 (r+1):=by rw[<-hr]
 rw[e1];have lt:=H.nt;have ls:=H.ns;have r1:=H.r1;have r2:=H.r2;have hw:=wI i;refine aG amF ?_;refine Iv (m:=q) (by omega) hp.1 Aw λs hs=>?_
 refine sh (m:=q) (k:=mK pb dB) (by omega) (by omega) H.ot ?_;refine jV (m:=q) (n:=4) (by omega) (by omega) (by omega) hd λj d1 hj cA=>?_
 refine w_num (m:=q) (k:=mK pb dB) (by omega) (by simp;omega) (.inl rfl) ?_;have H2:=H.tQ (M:=N+2) (dT:=tm++[⟨0,e,0,[],-1,-1⟩]++[⟨1,[],(j:Int),[],-1,-1⟩]) (by omega) (by simp;omega) (qC (qC H.kT ⟨.inl rfl,rfl,rfl,iZ⟩) ⟨.inr (.inl rfl),rfl,rfl,iZ⟩);have okc:∀{y1 y2:Int} {z:Int} {a:Int},iK ⟨a,[],[],[],s,-1,.own,[[.int .i64 y1],[.int .i64 y2]],.im true,[],.im true,[],z⟩:=λ{y1 y2 z a} => ⟨⟨[y1,y2],rfl,by simp⟩,⟨[],rfl,by simp,by simp⟩,⟨[],rfl,by simp⟩,.inr ⟨rfl,rfl⟩,.inr rfl⟩
 refine aj (λg=>?_) (λg=>?_)
 ·refine Vn (m:=q) (k:=mK pb dB) (by omega) (by omega) H.os (by omega) (by omega) (by simp) ?_;rw[hw];exact h _ _ _ _ _ (H2.step okc) cA
 ·refine afD (m:=q) (k:=mK pb dB) (by omega) (by omega) H.os (by omega) (by omega) (by simp) ?_;rw[hw];exact h _ _ _ _ _ (H2.step okc) cA
def abJ (q:Nat) (hq:200<=q) {pb:Bool} {dB:List PR} (h0:dB≠[]) (h1:dB.length<=10) (h2:∀p∈dB,uY p) {n:Nat} (hn:n<=3) {x2:aq ah} {a3:aq fG} {K:ve.T->OR} (h:Wv K Q):∀(c i:Nat) (tt:Tag) (tm:List TM) (ss:List SR) (nz rm:Int) (d:aq ah),5 - i < c->i<=n->WH (20 * i) tt tm .own ss nz rm->cu d->
  Wp (G1 (T q) q x2 c pb (dB.map cJ) d a3 (Ws (mK pb dB) tt tm ss nz rm) (n:Int) (i:Int)) (J ve K Q)
 | 0,i,tt,tm,ss,nz,rm,d,hc,hi,_,_=>by omega
 | c+1,i,tt,tm,ss,nz,rm,d,hc,hi,H,hd=>by
  have di:1<=dB.length:=by cases dB with | nil=>exact absurd rfl h0 | cons=>simp
  refine aG amE (aj (λg1=>?_) (λg1=>?_))
  ·have af:i < n:=by have:(i:Int) < (n:Int):=sn g1;omega
   refine jV (m:=q) (n:=(dB.map cJ).length) (by omega) (by simp;omega) (by simp;omega) hd λj d1 hj cA=>?_
   have yf:j < dB.length:=by simpa using hj
   have hp:=h2 _ (bU yf);refine aS A9 rfl (gE yf) ?_;refine jV (m:=q) (n:=(dB[j].rs.map λs=>[D.str s]).length) (by omega) (by have:=hp.2.1;simp;omega) (by have:=hp.2.2.1;simp;omega) cA λj2 d2 lx fh=>?_
   have F9:j2 < dB[j].rs.length:=by simpa using lx
   refine aS (enc:=λs:BB=>[D.str s]) (f:=λs=>(s,())) (λa=>⟨by simp,rfl⟩) rfl (z7 F9) ?_;refine Vl (m:=q) (k:=mK pb dB) (tm:=tm) (st:=.own) (ss:=ss) (by omega) (N:=20 * i) (by omega) H fh hp λs tT sc xc tu tI d3 H1 wq sX=>mJ (m:=q) (by omega) ?_
   have en:∀aQ,Wp (uQ (T q) q x2 c q pb (dB.map cJ) d3 a3 (W (mK pb dB) tT sc .own xc tu tI) (n:Int) (i:Int) (dB[j].nm,(dB[j].rt,dB[j].rs.map λs=>[.str s]),(dB[j].pt,dB[j].iw),()) dB[j].rs[j2] s (aQ,[],[],[],[],-1,(true,[]),(true,[]),(true,[]),-1,())) (J ve K Q):=λaQ=>
    abK q hq (N:=20 * i+12) (by omega) af hn H1 sX hp (hp.2.2.2 _ (bU F9)) λEB Eu zb Eg d4 H2 Ak=>
     abJ q hq h0 h1 h2 hn h c (i+1) EB Eu zb tu Eg d4 (by omega) (by omega) (H2.le (by omega)) Ak
   exact aj (λg2=>mJ (m:=q) (by omega) (en _)) (λg2=>en _)
  ·have qv:=H.nt;have Gn:=H.ns;have mu:=H.se rfl;have uM:(ss.map cS)≠[]:=by simpa using mu
   have fin:∀t,Wp (K (([109,97,105,110],(true,[]),(t,tm.map bH),ss.map cS,()),d,())) Q:=λt=>
    h [109,97,105,110] true [] t tm ss d ⟨by simp,by simp,(by intro x hx;simp at hx),by show tm.length<=_;omega,H.kT,EP.2 mu,by show ss.length<=_;omega,H.kS⟩ hd
   refine eL ?_;rcases H.ot with ht | ⟨ht,_⟩<;>subst ht
   ·have Db:=H.te rfl;have Ay:(tm.map bH)≠[]:=by simpa using Db
    exact ij (az (j7 Ay) (az (j7 uM) (cF (j7 Ay) (cF (j7 uM) (aB (aH rfl (fin .own)))))))
   ·exact eL (az (j7 uM) (cF (j7 uM) (aB (aH rfl (fin (.im true))))))
def afp (hm:320<=m) {pb:Bool} {dB:List PR} (h0:dB≠[]) (h1:dB.length<=10) (h2:∀p∈dB,uY p) (hd:cu d) {K:ve.T->OR} (h:Wv K Q):Wp (Ph (T m) pb (dB.map cJ) d K) Q:=by
 obtain⟨m,rfl⟩:=bT hm;have di:1<=dB.length:=by cases dB with | nil=>exact absurd rfl h0 | cons=>simp
 refine bI ah0 ?_;refine jV (m:=m) (n:=3) (by omega) (by omega) (by omega) hd λj d1 hj cA=>?_
 have hw:ak (1+(j:Int))=((1+j:Nat):Int):=iP;rw[hw];obtain⟨r,hr⟩:=bl 1 m;have e0:∀x,KZ (T m) m x m=KZ (T m) m x (r+1):=by intro x;rw[<-hr]
 rw[e0];refine aG amD (cF (aM (by omega)) ?_);refine jV (m:=m) (n:=(dB.map cJ).length) (by omega) (by simp;omega) (by simp;omega) cA λj1 d2 yg fh=>?_
 have yf:j1 < dB.length:=by simpa using yg
 have hp:=h2 _ (bU yf);refine aS A9 rfl (gE yf) ?_;refine jV (m:=m) (n:=(dB[j1].rs.map λs=>[D.str s]).length) (by omega) (by have:=hp.2.1;simp;omega) (by have:=hp.2.2.1;simp;omega) fh λj2 d3 lx sX=>?_
 have F9:j2 < dB[j1].rs.length:=by simpa using lx
 refine aS (enc:=λs:BB=>[D.str s]) (f:=λs=>(s,())) (λa=>⟨by simp,rfl⟩) rfl (z7 F9) ?_;have H:WH 0 (.im true) [] (.im true) [] 0 0:=⟨.inr ⟨rfl,rfl⟩,.inr ⟨rfl,rfl⟩,by simp,by simp,(λi t ht=>by simp at ht),(λs hs=>by cases hs),⟨0,rfl,by omega⟩,by omega,by omega,(λh=>by cases h),(λh=>by cases h)⟩
 refine Vl (m:=m) (k:=mK pb dB) (tt:=.im true) (tm:=[]) (st:=.im true) (ss:=[]) (nz:=0) (rm:=0) (by omega) (N:=0) (by omega) H sX hp λs tT sc xc tu tI d4 H1 wq Ak=>mJ (m:=m) (by omega) ?_
 have en:∀(x2:aq ah) (a3:aq fG) (aQ:Int),Wp (uQ (T m) m x2 r m pb (dB.map cJ) d4 a3 (W (mK pb dB) tT sc .own xc tu tI) ((1+j:Nat):Int) ((0:Nat):Int) (dB[j1].nm,(dB[j1].rt,dB[j1].rs.map λs=>[.str s]),(dB[j1].pt,dB[j1].iw),()) dB[j1].rs[j2] s (aQ,[],[],[],[],-1,(true,[]),(true,[]),(true,[]),-1,())) (J ve K Q):=λx2 a3 aQ=>
  abK m (by omega) (N:=12) (by omega) (by omega) (by omega) (H1.le (by omega)) Ak hp (hp.2.2.2 _ (bU F9)) λEB Eu zb Eg d5 H2 FW=>
   abJ m (by omega) h0 h1 h2 (by omega) h r 1 EB Eu zb tu Eg d5 (by omega) (by omega) (H2.le (by omega)) FW
 exact aj (λg2=>mJ (m:=m) (by omega) (en _ _ _)) (λg2=>en _ _ _)
end
end
section
open Go Go.ax QQ
structure GP where
 nm:BB
 M:Nat
 ps:List PT
def lE (g:GP):Prop:=(g.nm=[112]\/g.nm=[113])/\oP g.M g.ps
def eD (g:GP):PR:=⟨g.nm,false,(List.range g.M).map cK,false,g.ps.map cP⟩
def U3 {g:GP} (h:lE g):uY (eD g):=by
 have h2:=h.2.1;have h4:=h.2.2.1;refine⟨?_,?_,?_,?_⟩
 ·rcases h.1 with e | e<;>(show g.nm.length<=20;rw[e];simp)
 ·show 1<=((List.range g.M).map cK).length;simp;omega
 ·show ((List.range g.M).map cK).length<=10;simp;omega
 ·intro s hs;simp only[eD,kJ] at hs;obtain⟨a,_,rfl⟩:=hs;simp[cK]
def Wq {g:GP} (h:lE g):g.nm∈Hu:=by rcases h.1 with e | e<;>rw[e]<;>decide
def Wo {g:GP} (h:lE g):g.nm.length<=20:=by rcases h.1 with e | e<;>rw[e]<;>simp
section
variable {m:Nat} {Q:V->List (List C)->Prop} {d:aq ah}
def OA (nm:BB) (K:yX.T->OR) (Q:V->List (List C)->Prop):Prop:=∀M ps d',oP M ps->cu d'->Wp (K ((nm,(false,eV M),(false,ps.map cP),()),d',())) Q
def as1 (hm:60<=m) {nm:BB} {s:List BB} (hs:nP s) {b:Bool} (hd:cu d) {K:yX.T->OR} (h:OA nm K Q):Wp (Xn (T m) nm b (ie s) d K) Q:=by
 obtain⟨M,ps,d',h1,h2,e⟩:=aqy (nm:=nm) m (by omega) b hs hd;exact jk (x:=((nm,(false,eV M),(false,ps.map cP),()),d',())) e rfl (h M ps d' h1 h2)
def asL (hm:60<=m) {nm:BB} {s:List BB} (hs:nP s) {b:Bool} (hd:cu d) {K:yX.T->OR} (h:OA nm K Q):Wp (c138 (T m) nm 2 b (ie s) d K) Q:=by
 obtain⟨ps,d',h1,h2,e⟩:=OJ (nm:=nm) m (by omega) b hs 2 (by omega) (by omega) hd;exact jk (x:=((nm,(false,eV 2),(false,ps.map cP),()),d',())) e rfl (h 2 ps d' h1 h2)
def afA (hm:2640<=m) {nm:BB} (hn:nm∈Hu) (oA:nm.length<=20) {s:List BB} (hs:nP s) {b:Bool} (hd:cu d) {K:yX.T->OR} (h:OA nm K Q):Wp (c80 (T m) nm b (ie s) d K) Q:=by
 obtain⟨m,rfl⟩:=bT hm;refine bI ahM ?_;refine as1 (m:=m) (by omega) hs hd λM ps d' hP dD=>?_
 refine Ve (m:=m) (by omega) hP hn oA λb' Ls z err hl bh=>aj (λg=>aB (aH rfl (h M ps d' hP dD))) (λg=>?_)
 exact asL (m:=m) (by omega) hs dD λM2 TW d2 Ae fh=>aB (aH rfl (h M2 TW d2 Ae fh))
def Bo (i:Nat):List BB:=(List.range i).map λk=>[112,46]++cK k
def asv (i:Nat):Bo (i+1)=Bo i++[[112,46]++cK i]:=by simp[Bo,Oj]
def acW:∀l:List BB,aK (ie l)=ie l
 | []=>rfl
 | a::t=>by
  have:=acW t;simp only[ie,e9,aK] at this ⊢;rw[this];rfl
def asu {M:Nat} (h:M<=4):nP (Bo M):=by
 have:M=0\/M=1\/M=2\/M=3\/M=4:=by omega
 rcases this with rfl | rfl | rfl | rfl | rfl<;>exact⟨by decide,by decide⟩
def abY (q:Nat) {M:Nat} (h4:M<=4) (rb pb:Bool) (iw:RR) {K:de.T->OR} (h:∀b s,nP s->Wp (K ((b,ie s),())) Q):∀(c i:Nat),M - i < c->i<=M->
  Wp (KW (T q) q c ([112],(rb,eV M),(pb,iw),()) (ie (Bo i)) (i:Int)) (J de K Q)
 | 0,i,hc,_=>by omega
 | c+1,i,hc,hi=>by
  have hl:(ie (Bo i)).length=i:=by simp[ie,Bo]
  refine aG amt (aj (λg1=>?_) (λg1=>?_))
  ·have af:i < M:=by
    have g2:(i:Int) < ae (eV M).length:=sn g1;rw[cm,tJ] at g2;omega
   refine bE (by simp) (aG (fZ (v:=(cK i,())) rfl (pU af) (by simp) rfl rfl) (bE (by simp[cK]) (az (gW (by rw[hl];omega) (by omega)) ?_)));rw[wI i,dZ];have:=abY q h4 rb pb iw h c (i+1) (by omega) (by omega);rw[asv,ie,eF] at this;exact this
  ·obtain rfl:i=M:=by
    have g2:¬ (i:Int) < ae (eV M).length:=lj g1;rw[cm,tJ] at g2;omega
   refine az (by simp) ?_;rw[dZ,acW];exact aB (aH rfl (h false _ (asu h4)))
def atg (hm:60<=m) {M:Nat} (h2:2<=M) (h4:M<=4) {rb pb:Bool} {iw:RR} {K:de.T->OR} (h:∀b s,nP s->Wp (K ((b,ie s),())) Q):Wp (XH (T m) [112] rb (eV M) pb iw K) Q:=by
 obtain⟨m,rfl⟩:=bT hm;refine bI ahO ?_;obtain⟨r,hr⟩:=bl 1 m;have e0:KV (T m) m m=KV (T m) m (r+1):=by rw[<-hr]
 rw[e0];refine aG ams (cF (aM (by show (0:Int) < ae (eV M).length;rw[cm,tJ];omega)) ?_);refine bE (by simp) (aG (fZ (v:=(cK 0,())) (i:=0) rfl (pU (by omega)) (by simp) rfl rfl) (bE (by simp[cK]) (az rfl ?_)));exact abY m h4 rb pb iw h r 1 (by omega) (by omega)
def PsK (K:Uo.T->OR) (Q:V->List (List C)->Prop):Prop:=∀(gs:List GP) d',gs≠[]->gs.length<=2->(∀g∈gs,lE g)->cu d'->Wp (K ((false,(gs.map eD).map cJ),d',())) Q
def XM (nm:BB) (M:Nat) (ps:List PT):cJ (eD ⟨nm,M,ps⟩)=[.str nm,.sl (.im false) 1 (eV M),.sl (.im false) 3 (ps.map cP)]:=by rw[HX];rfl
def as2 (hm:2650<=m) (hd:cu d) {K:Uo.T->OR} (h:PsK K Q):Wp (c31 (T m) d K) Q:=by
 obtain⟨m,rfl⟩:=bT hm;have h0:nP []:=⟨by simp,λx hx=>by cases hx⟩
 refine bI ahL ?_;refine afA (m:=m) (s:=[]) (by omega) (by decide) (by simp) h0 hd λM ps d1 hP cA=>?_
 have g1:lE ⟨[112],M,ps⟩:=⟨.inl rfl,hP⟩
 refine jV (m:=m) (n:=2) (by omega) (by omega) (by omega) cA λj d2 hj fh=>aj (λg=>?_) (λg=>aB ?_)
 ·refine atg (m:=m) (by omega) hP.1 hP.2.1 λb s hs=>?_
  refine afA (m:=m) (by omega) (by decide) (by simp) hs fh λM2 TW d3 Ae sX=>aB ?_
  have:=h [⟨[112],M,ps⟩,⟨[113],M2,TW⟩] d3 (by simp) (by simp) (by intro g hg;simp at hg;rcases hg with rfl | rfl;exact g1;exact⟨.inr rfl,Ae⟩) sX;simp only[e9,vy,XM] at this;exact aH rfl this
 ·have:=h [⟨[112],M,ps⟩] d2 (by simp) (by simp) (by intro g hg;simp at hg;subst hg;exact g1) fh;simp only[e9,vy,XM] at this;exact aH rfl this
def asH (hm:1<=m) {l:List Int} (hl:l.length * 8<=140737488355328) {b:Bool} {K:rs4.T->OR} (h:∀d,cu d->Wp (K ((),d,())) Q):Wp (c28 (T m) b (l.map bN) K) Q:=by
 obtain⟨m,rfl⟩:=bT hm;have hn:ni (l.map bN)=true:=by
  cases l with
  | nil=>rfl
  | cons a t=>simp[ni,tV,yv,bN]
 refine bI ahI (az (by simp only[fS,hn];simp;omega) (aj (λg=>aB ?_) (λg=>aB ?_)))
 ·exact aH rfl (h _ ⟨.im true,l,0,rfl,by omega,by omega⟩)
 ·exact aH rfl (h _ ⟨.own,l,0,rfl,by omega,by omega⟩)
def BK (S:SR->Prop) (K:la.T->OR) (Q:V->List (List C)->Prop):Prop:=∀(gs:List GP) (pos:List PO),gs≠[]->gs.length<=2->(∀g∈gs,lE g)->pos≠[]->pos.length<=20->(∀p∈pos,mC S p)->Wp (K (((false,(gs.map eD).map cJ),(true,[]),pos.map gB,()),())) Q
end
end
section
open Go Go.ax QQ
section
variable {m:Nat} {Q:V->List (List C)->Prop}
def Iy {t:Tag} {f:Tag->OR} (h:Wp (f t) Q):Wp (zZ t f) Q:=by cases t<;>exact h
def NR {gs:List GP} (h:gs≠[]):gs.map eD≠[]:=by simpa using h
def NQ {gs:List GP} (h:∀g∈gs,lE g):∀p∈gs.map eD,uY p:=by
 intro p hp;simp only[kJ] at hp;obtain⟨g,hg,rfl⟩:=hp;exact U3 (h g hg)
def XR {g:GP} (h:lE g) {L:LR} (hL:HC g.nm L):((5:Int),L.nm)∈jb:=by
 obtain⟨_,i,hi,e⟩:=hL;rw[e];rcases h.1 with e | e<;>rw[e]<;>(have:i=0\/i=1\/i=2\/i=3:=by omega)<;>rcases this with rfl | rfl | rfl | rfl<;>decide
def aqw (q:Nat) (hq:330<=q) {gs:List GP} (g0:gs≠[]) (g1:gs.length<=2) (g2:∀g∈gs,lE g) {K:la.T->OR} (h:BK iK K Q) {c i:Nat} (hi:¬ i < gs.length) {a0:aq cL} {d:aq ah} (hd:cu d) {aF:List PO} (di:aF.length<=19) (wg:∀p∈aF,mC iK p) :
  Wp (Ds (T q) q (c+1) a0 d ((false,(gs.map eD).map cJ),(true,[]),aF.map gB,()) (i:Int)) (J la K Q):=by
 refine aG aaQ (eW (bm (by show ¬ (i:Int) < ae ((gs.map eD).map cJ).length;rw[cm];simp;omega)) ?_);refine afp (m:=q) (by omega) (NR g0) (by simp;omega) (NQ g2) hd λnm b pm tt tm ss d' hp dD=>Iy ?_
 have e:aF.map gB++[[D.str [],D.sl (.im true) 3 [],D.sl (.im true) 6 [],D.sl (.im true) 10 []]].set 0 [D.str nm,D.sl (.im b) 3 (pm.map eG),D.sl tt 6 (tm.map bH),D.sl .own 10 (ss.map cS)]=(aF++[PO.mk nm (.im b) pm tt tm ss]).map gB:=by rw[eF];rfl
 dsimp only;rw[e];refine az (gW (by simp;omega) (by omega)) (az (j7 (by simp)) (cF (j7 (by simp)) (aB ?_)));exact aH rfl (h gs (aF++[_]) g0 g1 g2 (by simp) (by simp;omega) (by intro x hx;rw[dk] at hx;rcases hx with hx | hx;exact wg x hx;simp at hx;subst hx;exact hp))
def TV (q:Nat) (hq:2630<=q) {gs:List GP} (g0:gs≠[]) (g1:gs.length<=2) (g2:∀g∈gs,lE g) {c i B:Nat} {g:GP} (hg:gs[i]? = some g) {a0:aq cL} {lb:Bool} {Ls:List LR} (QG:Ls.length<=g.M) (Ad:∀L∈Ls,HC g.nm L) {K:la.T->OR}
  (h:∀(d:aq ah) (aF:List PO),cu d->aF.length<=B+4->(∀p∈aF,mC iK p)->Wp (Ds (T q) q c a0 d ((false,(gs.map eD).map cJ),(true,[]),aF.map gB,()) ((i+1:Nat):Int)) (J la K Q)) :
  ∀(e k:Nat) (d:aq ah) (aF:List PO),Ls.length - k < e->k<=Ls.length->cu d->aF.length<=B+k->(∀p∈aF,mC iK p)->B<=10->
   Wp (G0 (T q) q c e a0 d ((false,(gs.map eD).map cJ),(true,[]),aF.map gB,()) (i:Int) lb (Ls.map lN) (k:Int)) (J la K Q)
 | 0,k,d,aF,he,_,_,_,_,_=>by omega
 | e+1,k,d,aF,he,hk,hd,di,wg,hB=>by
  have mZ:=g2 g (ff hg);have h4:=mZ.2.2.1;have jn:i < gs.length:=(cd.1 hg).1;refine aG amq (aj (λr1=>?_) (λr1=>?_))
  ·have af:k < Ls.length:=bW r1;refine aS A9 (a:=eD g) rfl (by rw[bQ,hg];rfl) ?_;refine aS ado rfl (gE af) ?_;have FJ:=U3 mZ;refine afs (m:=q) (L:=Ls[k]) (by omega) (NR g0) (by simp;omega) (NQ g2) FJ.1 (by show k < ((List.range g.M).map cK).length;simp;omega) FJ.2.2.2 (gE af) (Ad _ (bU af)).1 (XR mZ (Ad _ (bU af))) hd λnm pm tt tm ss d' hp dD=>Iy ?_
   refine az (gW (by simp;omega) (by omega)) ?_;rw[wI k];have:=TV q hq g0 g1 g2 hg (lb:=lb) QG Ad h e (k+1) d' (aF++[PO.mk nm .own pm tt tm ss]) (by omega) (by omega) dD (by simp;omega) (by intro x hx;rw[dk] at hx;rcases hx with hx | hx;exact wg x hx;simp at hx;subst hx;exact hp) hB;rw[eF] at this;exact this
  ·rw[wI i];exact h d aF hd (by omega) wg
def ac2 (q:Nat) (hq:2630<=q) {gs:List GP} (g0:gs≠[]) (g1:gs.length<=2) (g2:∀g∈gs,lE g) {a0:aq cL} {K:la.T->OR} (h:BK iK K Q) :
  ∀(c i:Nat) (d:aq ah) (aF:List PO),gs.length - i < c->i<=gs.length->cu d->aF.length<=4 * i->(∀p∈aF,mC iK p)->
   Wp (Ds (T q) q c a0 d ((false,(gs.map eD).map cJ),(true,[]),aF.map gB,()) (i:Int)) (J la K Q)
 | 0,i,d,aF,hc,_,_,_,_=>by omega
 | c+1,i,d,aF,hc,hi,hd,di,wg=>by
  by_cases af:i < gs.length
  ·have hg:gs[i]? = some gs[i]:=gE af;have mZ:=g2 _ (bU af);have h4:=mZ.2.2.1;refine aG aaQ (cF (aM (by show (i:Int) < ae ((gs.map eD).map cJ).length;rw[cm];simp;omega)) ?_);refine aS A9 (a:=eD gs[i]) rfl (by rw[bQ,hg];rfl) ?_;show Wp (BZ _ gs[i].nm false (((List.range gs[i].M).map cK).map λs=>[D.str s]) false (gs[i].ps.map cP) _) _;rw[<-HX];refine Ve (m:=q) (by omega) mZ.2 (Wq mZ) (Wo mZ) λlb Ls z err hl bh=>?_
   exact TV q hq g0 g1 g2 (B:=4 * i) hg (lb:=lb) hl bh (λd' TP dD Au RE=>ac2 q hq g0 g1 g2 h c (i+1) d' TP (by omega) (by omega) dD (by omega) RE) q 0 d aF (by omega) (by omega) hd (by omega) wg (by omega)
  ·exact aqw q (by omega) g0 g1 g2 h af hd (by omega) wg
def aqv (q:Nat) (hq:2630<=q) {gs:List GP} (g0:gs≠[]) (g1:gs.length<=2) (g2:∀g∈gs,lE g) {c i:Nat} {g:GP} (hg:gs[i]? = some g) {a0:aq cL} {lb:Bool} {Ls:List LR} (QG:Ls.length<=g.M) (Ad:∀L∈Ls,HC g.nm L) {K:la.T->OR} {d:aq ah} (hd:cu d)
  (h:∀(d:aq ah) (aF:List PO),cu d->aF.length<=4->(∀p∈aF,mC iK p)->Wp (Ds (T q) q c a0 d ((false,(gs.map eD).map cJ),(true,[]),aF.map gB,()) ((i+1:Nat):Int)) (J la K Q))
  (h':Wp (GY (T q) q c a0 d ((false,(gs.map eD).map cJ),(true,[]),(true,[]),()) ((i+1:Nat):Int)) (J la K Q)) :
  Wp (GZ (T q) q c q a0 d ((false,(gs.map eD).map cJ),(true,[]),(true,[]),()) (i:Int) lb (Ls.map lN) 0) (J la K Q):=by
 obtain⟨r,hr⟩:=bl 1 q;have e0:GZ (T q) q c q=GZ (T q) q c (r+1):=by rw[<-hr]
 have mZ:=g2 g (ff hg);have h4:=mZ.2.2.1;have jn:i < gs.length:=(cd.1 hg).1;rw[e0];refine aG amp (aj (λr1=>?_) (λr1=>?_))
 ·have af:0 < Ls.length:=bW r1;refine aS A9 (a:=eD g) rfl (by rw[bQ,hg];rfl) ?_;refine aS ado (i:=0) rfl (gE af) ?_;have FJ:=U3 mZ;refine afs (m:=q) (L:=Ls[0]) (i:=0) (by omega) (NR g0) (by simp;omega) (NQ g2) FJ.1 (by show 0 < ((List.range g.M).map cK).length;simp;omega) FJ.2.2.2 (gE af) (Ad _ (bU af)).1 (XR mZ (Ad _ (bU af))) hd λnm pm tt tm ss d' hp dD=>Iy (az rfl ?_)
  exact TV q hq g0 g1 g2 (B:=0) hg (lb:=lb) QG Ad (λd aF hd di wg=>h d aF hd (by omega) wg) r 1 d' [⟨nm,.own,pm,tt,tm,ss⟩] (by omega) (by omega) dD (by simp) (by intro x hx;simp at hx;subst hx;exact hp) (by omega)
 ·rw[wI i];exact h'
def ac1 (q:Nat) (hq:2630<=q) {gs:List GP} (g0:gs≠[]) (g1:gs.length<=2) (g2:∀g∈gs,lE g) {a0:aq cL} {K:la.T->OR} (h:BK iK K Q) :
  ∀(c i:Nat) (d:aq ah),c<=q->gs.length - i < c->i<=gs.length->cu d->
   Wp (GY (T q) q c a0 d ((false,(gs.map eD).map cJ),(true,[]),(true,[]),()) (i:Int)) (J la K Q)
 | 0,i,d,_,hc,_,_=>by omega
 | c+1,i,d,FU,hc,hi,hd=>by
  by_cases af:i < gs.length
  ·have hg:gs[i]? = some gs[i]:=gE af;have mZ:=g2 _ (bU af);have h4:=mZ.2.2.1;refine aG aaP (cF (aM (by show (i:Int) < ae ((gs.map eD).map cJ).length;rw[cm];simp;omega)) ?_);refine aS A9 (a:=eD gs[i]) rfl (by rw[bQ,hg];rfl) ?_;show Wp (BZ _ gs[i].nm false (((List.range gs[i].M).map cK).map λs=>[D.str s]) false (gs[i].ps.map cP) _) _;rw[<-HX];refine Ve (m:=q) (by omega) mZ.2 (Wq mZ) (Wo mZ) λlb Ls z err hl bh=>?_
   exact aqv q hq g0 g1 g2 hg (lb:=lb) hl bh hd (λd' TP dD Au RE=>ac2 q hq g0 g1 g2 h c (i+1) d' TP (by omega) (by omega) dD (by omega) RE) (ac1 q hq g0 g1 g2 h c (i+1) d (by omega) (by omega) (by omega) hd)
  ·refine aG aaP (eW (bm (by show ¬ (i:Int) < ae ((gs.map eD).map cJ).length;rw[cm];simp;omega)) ?_);refine afp (m:=q) (by omega) (NR g0) (by simp;omega) (NQ g2) hd λnm b pm tt tm ss d' hp dD=>Iy (az rfl (aB ?_))
   exact aH rfl (h gs [⟨nm,.im b,pm,tt,tm,ss⟩] g0 g1 g2 (by simp) (by simp) (by intro x hx;simp at hx;subst hx;exact hp))
def as0 (hm:2660<=m) {l:List Int} (hl:l.length * 8<=140737488355328) {b:Bool} {K:la.T->OR} (h:BK iK K Q):Wp (Xk (T m) b (l.map bN) K) Q:=by
 obtain⟨m,rfl⟩:=bT hm;refine bI ahK ?_;refine asH (m:=m) (by omega) hl λd hd=>?_
 refine as2 (m:=m) (by omega) hd λgs d' g0 g1 g2 dD=>?_
 exact ac1 m (by omega) g0 g1 g2 h m 0 d' (by omega) (by omega) (by omega) dD
end
end
section
open Go Go.ax QQ
section
variable {m:Nat} {Q:V->List (List C)->Prop} {K:la.T->OR} {pos:List PO} {k i:Nat} {p:PO} {s:SR}
theorem aew (x:Int) {n:Nat} (hn:1<=n) (pI:n<=1000000000):∃j:Nat,ak ((bY x).tmod (n:Int))=(j:Int)/\j < n:=by
 obtain⟨h,j,hj⟩:=MU x hn pI;rw[h] at hj;exact⟨j,hj⟩
theorem Ic (hp:pos[k]? = some p):(pos.map gB)[0+k]? = some (gB p):=by rw[cQ,bQ,hp];rfl
theorem za (hs:p.ss[i]? = some s):(p.ss.map cS)[0+i]? = some (cS s):=by rw[cQ,bQ,hs];rfl
theorem Bi (hp:pos[k]? = some p) {F:Nat->RR->OR} (h:Wp (F 10 (p.ss.map cS)) Q):Wp (ay ((pos.map gB)[0+k]?) λo8=>ay (o8[3]?) λo9=>ga o9 F) Q:=
 eg (Ic hp) (eg (b:=.sl .own 10 (p.ss.map cS)) rfl (show Wp (ga (.sl .own 10 _) F) Q from h))
theorem qM {ds:List DS} {v:aq ds} {c:Nat} {K:aq ds->OR} (hp:pos[k]? = some p) (hs:p.ss[i]? = some s) (hc:c < 10) (hd:dI ds (List.take 1 (List.drop c (cS s)))=some v) (h:Wp (K v) Q):Wp (rP ds (pos.map gB) k i c K) Q:=
 Bi hp (az rfl (eg (za hs) (az (by rw[aM (show c+1<=(cS s).length from hc)];rfl) (gi hd h))))
def PO.put (p:PO) (i:Nat) (s:SR):PO:={ p with ss:=p.ss.set i s }
theorem UJ (hp:pos[k]? = some p) (hs:p.ss[i]? = some s) {c:Nat} {q:List (Nat×Nat)} {z:D} {s':SR} (h:(cS s).set c (eo ((cS s).getD c (D.bool false)) q z)=cS s') :
  rW (pos.map gB) (0+k) 3 ((0+i,c)::q) z=(pos.set k (p.put i s')).map gB:=by
 have g:List.getD (pos.map gB) (0+k) []=gB p:=by rw[nY,Ic hp];rfl
 have g2:List.getD (p.ss.map cS) (0+i) []=cS s:=by rw[nY,za hs];rfl
 unfold rW bS;rw[g];show (pos.map gB).set (0+k) [_,_,_,.sl .own 10 ((p.ss.map cS).set (0+i) (((p.ss.map cS).getD (0+i) []).set c (eo ((((p.ss.map cS).getD (0+i) [])).getD c (.bool false)) q z)))]=_;rw[g2,h,cQ,cQ,vx];show _=(pos.map gB).set k [_,_,_,.sl .own 10 ((p.ss.set i s').map cS)];rw[vx];rfl
theorem ap2 {S:SR->Prop} {x:SR} (h:mC S p) (hx:S x):mC S (p.put i x):=
 ⟨h.n1,h.p1,h.p2,h.t1,h.t2,by have:=h.s0;show 1<=(p.ss.set i x).length;simpa using this,by have:=h.s1;show (p.ss.set i x).length<=_;simpa using this,λy hy=>(IK hy).elim (h.s2 y) λe=>e▸hx⟩
theorem ack {p:PO} (h:mC iK p):mC nk p:=⟨h.n1,h.p1,h.p2,h.t1,h.t2,h.s0,h.s1,λy hy=>acb (h.s2 y hy)⟩
structure SG (pos:List PO) (k:Nat) (p:PO) (i:Nat) (s:SR):Prop where
 h0:pos≠[]
 h1:pos.length<=20
 h2:∀p∈pos,mC nk p
 hp:pos[k]? = some p
 hs:p.ss[i]? = some s
theorem SG.aed (g:SG pos k p i s) {x:PO} (hx:mC nk x):pos.set k x≠[]/\(pos.set k x).length<=20/\∀y∈pos.set k x,mC nk y:=
 ⟨by simpa using g.h0,by simpa using g.h1,λy hy=>(IK hy).elim (g.h2 y) λe=>e▸hx⟩
theorem SG.put (g:SG pos k p i s) {x:SR} (hx:nk x):SG (pos.set k (p.put i x)) k (p.put i x) i x:=by
 have ho:mC nk (p.put i x):=ap2 (g.h2 _ (ff g.hp)) hx;have l1:=(cd.1 g.hp).1;have l2:=(cd.1 g.hs).1;have f:=g.aed ho;exact⟨f.1,f.2.1,f.2.2,vp l1,vp l2⟩
section
variable {gs:List GP} (hm:1<=m) (g0:gs≠[]) (g1:gs.length<=2) (g2:∀g∈gs,lE g) (h:BK nk K Q) {a0:aq cL}
include hm g0 g1 g2 h
theorem UI (h0:pos≠[]/\pos.length<=20/\∀p∈pos,mC nk p) :
  Wp (lB (T m) m m a0 ((false,(gs.map eD).map cJ),(true,[]),pos.map gB,())) (J la K Q):=by
 obtain⟨r,hr⟩:=bl 1 m;have e0:lB (T m) m m=lB (T m) m (r+1):=by rw[<-hr]
 rw[e0];have aD:pos.map gB≠[]:=by simpa using h0.1
 exact aG amr (az (j7 aD) (cF (j7 aD) (aB (aH rfl (h gs pos g0 g1 g2 h0.1 h0.2.1 h0.2.2)))))
theorem tN (g:SG pos k p i s) {s':SR} {c:Nat} {q:List (Nat×Nat)} {z:D} (h5:nk s') (h6:(cS s).set c (eo ((cS s).getD c (D.bool false)) q z)=cS s') :
  Wp (lB (T m) m m a0 ((false,(gs.map eD).map cJ),(true,[]),rW (pos.map gB) (0+k) 3 ((0+i,c)::q) z,())) (J la K Q):=by
 rw[UJ g.hp g.hs h6];have g':=g.put h5;exact UI hm g0 g1 g2 h ⟨g'.h0,g'.h1,g'.h2⟩
end
theorem aev {L:RR} {z:Int} {j:Nat} {K:aq [DS.str]->OR} (hz:z=(j:Int)) (hL:∀r∈L,∃s,r=[D.str s]) (hj:j < L.length) (h:∀s,Wp (K (s,())) Q):Wp (iR [.str] 0 1 L z K) Q:=by
 obtain⟨s,e⟩:=hL _ (bU hj);exact aG (fZ (v:=(s,())) hz ((gE hj).trans (fW some e)) (by simp) rfl rfl) (h s)
theorem ata (hm:2680<=m) {l:List Int} (hl:l.length * 8<=140737488355328) {b:Bool} {x y:Int} (h:BK nk K Q):Wp (Xo (T m) b (l.map bN) x y K) Q:=by
 obtain⟨m,rfl⟩:=bT (show 1<=m by omega);refine bI ahN (as0 (m:=m) (by omega) hl λgs pos g0 g1 g2 h0 h1 h2=>?_);have di:1<=pos.length:=EP.2 h0;obtain⟨n1,k,hk,s5⟩:=MU x (k:=pos.length) di (by omega);have hp:pos[k]? = some pos[k]:=gE s5;have ho:=h2 _ (bU s5);generalize pos[k]=p at hp ho;have ka:=ho.s1;obtain⟨n2,i,hi,jn⟩:=MU ((bY x).tdiv 32) (k:=p.ss.length) ho.s0 (by omega);have hs:p.ss[i]? = some p.ss[i]:=gE jn;have hS:=ho.s2 _ (bU jn);generalize p.ss[i]=s at hs hS;have hP:=acb hS;have g:SG pos k p i s:=⟨h0,h1,λx hx=>ack (h2 x hx),hp,hs⟩
 have nl:ae (pos.map gB).length=(pos.length:Int):=by rw[cm,cX]
 have nl2:ae (p.ss.map cS).length=(p.ss.length:Int):=by rw[cm,cX]
 have f0:(!decide (bY ((pos.length:Nat):Int)=0))=true:=by rw[n1,bm (by omega)];rfl
 have f1:(!decide (bY ((p.ss.length:Nat):Int)=0))=true:=by rw[n2,bm (by have:=ho.s0;omega)];rfl
 have f2:decide (k < (pos.map gB).length)=true:=aM (by simpa using s5);have f3:decide (i < (p.ss.map cS).length)=true:=aM (by simpa using jn);have sS:1<=m:=by omega
 dsimp only;rw[nl,hk];refine az f0 (aG (rz (r:=gB p) (v:=(p.ss.map cS,())) rfl (by rw[bQ,hp];rfl) (cp 4) rfl rfl) ?_);dsimp only;rw[nl2,hi];refine az f1 (iA rfl (az f2 (eg (Ic hp) (az rfl (gi (v:=(p.ss.map cS,())) rfl (iA rfl (az f3 ?_)))))));refine aj (λ_=>qM hp hs (v:=(s.nm,())) (by decide) rfl (tN sS g0 g1 g2 h g (s':={ s with nm:=[99,57] }) hP rfl)) (λ_=>?_);refine aj (λ_=>?_) (λ_=>aj (λ_=>?_) (λ_=>?_))
 ·obtain⟨j,hj,CU⟩:∃j:Nat,ak ((bY ((bY y).tdiv 12)).tmod 5)=(j:Int)/\j < 5:=aew ((bY y).tdiv 12) (n:=5) (by omega) (by omega);obtain⟨m,rfl⟩:=bT (show 1<=m by omega);refine bI Yq (aB (aH rfl (aev hj (by intro r hr;simp at hr;rcases hr with rfl | rfl | rfl | rfl | rfl<;>exact⟨_,rfl⟩) CU λz=>?_)));exact qM hp hs (v:=(s.pr,())) (by decide) rfl (tN sS g0 g1 g2 h g (s':={ s with pr:=z }) hP rfl)
 ·obtain⟨j,hj,CU⟩:∃j:Nat,ak ((bY ((bY y).tdiv 12)).tmod 4)=(j:Int)/\j < 4:=aew ((bY y).tdiv 12) (n:=4) (by omega) (by omega);obtain⟨m,rfl⟩:=bT (show 1<=m by omega);refine bI Yp (aB (aH rfl (aev hj (by intro r hr;simp at hr;rcases hr with rfl | rfl | rfl | rfl<;>exact⟨_,rfl⟩) CU λz=>?_)));exact qM hp hs (v:=(s.lb,())) (by decide) rfl (tN sS g0 g1 g2 h g (s':={ s with lb:=z }) hP rfl)
 refine aj (λ_=>qM hp hs (v:=(s.nx,())) (by decide) rfl (tN sS g0 g1 g2 h g (s':={ s with nx:=(i:Int) }) hP rfl)) (λ_=>?_);refine aj (λ_=>qM hp hs (v:=(s.kd,())) (by decide) rfl (tN sS g0 g1 g2 h g (s':={ s with kd:=ak ((bY ((bY y).tdiv 12)).tmod 12) }) hP rfl)) (λ_=>?_);refine aj (λ_=>qM hp hs (v:=(s.tm,())) (by decide) rfl (tN sS g0 g1 g2 h g (s':={ s with tm:=ak (ak ((bY ((bY y).tdiv 12)).tmod 40) - 2) }) hP rfl)) (λ_=>?_);refine aj (λ_=>qM hp hs (v:=(s.pc,())) (by decide) rfl (tN sS g0 g1 g2 h g (s':={ s with pc:=[109,97,105,110] }) hP rfl)) (λ_=>?_);have all:Wp (lB (T m) m m ((true,[]),(true,[]),(true,[]),()) ((false,(gs.map eD).map cJ),(true,[]),pos.map gB,())) (J la K Q):=UI (by omega) g0 g1 g2 h ⟨h0,h1,g.h2⟩;refine aj (λ_=>?_) (λ_=>aj (λ_=>?_) (λ_=>aj (λ_=>?_) (λ_=>aj (λ_=>?_) (λ_=>?_))))
 ·refine Bi hp (az rfl (eg (za hs) (az rfl (gi (v:=((s.wt,s.ws),())) rfl ?_))));obtain⟨_,_,⟨ws,e3,l3⟩,hw,_⟩:=hS;rcases hw with hw | ⟨hw,hn⟩
  ·rw[hw];refine ij (aj (λg7=>?_) (λ_=>all));have rj:0 < s.ws.length:=by
    have:ae s.ws.length > 0:=sn g7;rw[cm] at this;omega
   have pw:aK s.ws=s.ws:=by rw[e3,MW]
   have h8:∀x:SR,x.wt = .own->(cS x)[8]? = some (.sl .own 3 x.ws):=λx hx=>by
    show some (D.sl x.wt 3 x.ws)=_;rw[hx]
   have h8':dI [.own 3] (List.take 1 (List.drop 8 (cS s)))=some (s.ws,()):=by
    show dI [.own 3] [.sl s.wt 3 s.ws]=_;rw[hw];rfl
   have x1:nk { s with wt:=.im false } := hP;have x2:nk { s with wt:=.im false,ws:=s.ws.drop 1 } := ⟨hP.1,hP.2.1,⟨ws.drop 1,by rw[e3];exact(V9 ..).symm,by rw[zq];omega⟩,hP.2.2.2⟩
   refine Bi hp (az rfl (eg (za hs) (az rfl (gi h8' ?_))));refine az (by simp;omega) (Bi hp (eg (za hs) (eg (h8 s hw) (Ix (az rfl (az (aM (by show 1+(s.ws.length - 1)<=s.ws.length;omega)) ?_))))));rw[pw,show List.take (s.ws.length - Int.toNat 1) (List.drop (0+Int.toNat 1) s.ws)=s.ws.drop 1 from zn (by rw[zq];exact cp _),show aK (s.ws.drop 1)=s.ws.drop 1 by rw[e3,<-V9,MW]];rw[UJ hp hs (s':={ s with wt:=.im false }) (q:=[]) rfl];have g':=g.put x1;refine qM g'.hp g'.hs (v:=(.sl (.im false) 3 s.ws,())) (by decide) rfl ?_;exact tN sS g0 g1 g2 h g' (s':={ s with wt:=.im false,ws:=s.ws.drop 1 }) x2 rfl
  ·rw[hw,hn];exact eL (eW rfl all)
 ·refine Bi hp (az rfl (eg (za hs) (az rfl (gi (v:=((s.ct,s.cs),())) rfl ?_))));obtain⟨_,⟨cs,e3,l3,l4⟩,_,hc⟩:=hP;rcases hc with hc | hc
  ·rw[hc];refine ij (aj (λg7=>?_) (λ_=>all));cases cs with
   | nil=>rw[e3] at g7;cases g7
   | cons c cs=>
    have h7:(cS s)[7]? = some (.sl .own 3 s.cs):=by
     show some (D.sl s.ct 3 s.cs)=_;rw[hc]
    have h7':dI [.own 3] (List.take 1 (List.drop 7 (cS s)))=some (s.cs,()):=by
     show dI [.own 3] [.sl s.ct 3 s.cs]=_;rw[hc];rfl
    have x2 : nk { s with cs := cO { c with ro := [97] } :: cs.map cO } := ⟨hS.1, ⟨{ c with ro := [97] } :: cs, rfl, l3, λy hy => by
      rcases ik.1 hy with rfl | hy
      · exact l4 c jD
      · exact l4 y (jC _ hy)⟩, hS.2.2.1, .inl hc⟩
    refine Bi hp (az rfl (eg (za hs) (az rfl (gi h7' ?_))));refine az (by rw[e3];rfl) (Bi hp (eg (za hs) (eg h7 (Ix (az rfl (eg (b:=cO c) (by rw[e3];rfl) (az rfl (gi (v:=(c.ro,())) rfl ?_))))))));refine tN sS g0 g1 g2 h g x2 ?_;show [_,_,_,_,_,_,_,eo (.sl s.ct 3 s.cs) _ _,_,_]=[_,_,_,_,_,_,_,D.sl s.ct 3 _,_,_]
    rw[hc,e3];rfl
  ·rw[hc];exact Iy (eW rfl all)
 ·exact qM hp hs (v:=(.sl s.gt 1 s.ag,())) (by decide) rfl (tN sS g0 g1 g2 h g (s':={ s with gt:=.im true,ag:=[] }) ⟨⟨[],rfl,by simp⟩,hP.2⟩ rfl)
 ·refine qM hp hs (v:=(s.kd,())) (by decide) rfl ?_;have st:∀{pos:List PO} {p:PO} {s:SR} (g:SG pos k p i s) (c:Nat) (z:D) (s':SR),nk s'->(cS s).set c z=cS s'->∃(pos':List PO) (p':PO),rW (pos.map gB) (0+k) 3 [(0+i,c)] z=pos'.map gB/\SG pos' k p' i s':=λg c z s' h5 h6=>⟨_,_,UJ g.hp g.hs h6,g.put h5⟩
  obtain⟨atV,p1,e1,q1⟩:=st g (0) (D.int .i64 0) { s with kd:=0 } hP rfl;rw[e1];refine qM q1.hp q1.hs (v:=(s.nm,())) (by decide) rfl ?_;obtain⟨atW,p2,e2,q2⟩:=st q1 (1) (D.str []) { s with kd:=0,nm:=[] } hP rfl;rw[e2];refine qM q2.hp q2.hs (v:=(s.tm,())) (by decide) rfl ?_;obtain⟨atX,p3,e3,q3⟩:=st q2 (5) (D.int .i64 (-1)) { s with kd:=0,nm:=[],tm:=-1 } hP rfl;rw[e3];refine qM q3.hp q3.hs (v:=(s.nx,())) (by decide) rfl ?_;exact tN sS g0 g1 g2 h q3 (s':={ s with kd:=0,nm:=[],tm:=-1,nx:=-1 }) hP rfl
 ·refine iA rfl (az f2 (eg (Ic hp) (az rfl (gi (v:=(.sl p.pt 3 (p.pm.map eG),())) rfl ?_))));have e:bS (pos.map gB) (0+k) 1 (D.sl (.im true) 3 [])=(pos.set k { p with pt:=.im true,pm:=[] }).map gB:=by
   have gg:List.getD (pos.map gB) (0+k) []=gB p:=by rw[nY,Ic hp];rfl
   unfold bS;rw[gg,cQ,vx];rfl
  rw[e];have ho:=ack ho;exact UI (by omega) g0 g1 g2 h (g.aed ⟨ho.n1,by simp,(by intro x hx;cases hx),ho.t1,ho.t2,ho.s0,ho.s1,ho.s2⟩)
end
end
end Go.Proofs.YtfmpdgeiodnnfaaGreatDoor
namespace Go.Proofs.YtfmpdgeiodnnfaaGreatDoor.QQ
section
open Go Go.ax
def agQ {k:Int} {x:BB} (h:(k,x)∈jb):(pz k x).length<=8:=by
 simp only[jb,ik,uc,ub,iB] at h;rcases h with⟨rfl,rfl⟩ | ⟨rfl,rfl⟩ | ⟨rfl,rfl⟩ | ⟨rfl,rfl⟩ | ⟨rfl,rfl⟩ | ⟨rfl,rfl⟩ | ⟨rfl,rfl⟩ | ⟨rfl,rfl⟩ | ⟨rfl,rfl⟩ | ⟨rfl,rfl⟩ | ⟨rfl,rfl⟩ | ⟨rfl,rfl⟩ | ⟨rfl,rfl⟩<;>decide
section
variable {m:Nat} {z:OR}
def X9 (hm:80<=m) {k:Int} {x:BB} (hx:(k,x)∈jb) {K:BB×Unit->OR} (h:K (pz k x,())=z):xD (T m) k x K=z:=Bl (acF m hm hx) h
end
end
end Go.Proofs.YtfmpdgeiodnnfaaGreatDoor.QQ
namespace Go.Proofs.YtfmpdgeiodnnfaaGreatDoor
section
open Go Go.ax PT QQ
def pr (c:UInt8):Bool:=decide (32<=c.toNat)&&decide (c.toNat<=126)
def NL (s:List UInt8):Prop:=∀c∈s,pr c=true
def eh {a b:List UInt8}:NL (a++b)↔NL a/\NL b:=by
 simp only[NL,dk];exact⟨λh=>⟨λc hc=>h c (.inl hc),λc hc=>h c (.inr hc)⟩,λh c hc=>hc.elim (h.1 c) (h.2 c)⟩
def zw:NL []:=λc hc=>by cases hc
def cg {l:List UInt8} (h:l.all pr=true:=by rfl):NL l:=λc hc=>gY.1 h c hc
def vE {a:UInt8} {l:List UInt8}:NL (a::l)↔pr a=true/\NL l:=by simp[NL]
def alM {c:UInt8} (h:kW c=true):c≠10/\c≠32/\c≠125/\c≠123:=by
 refine⟨?_,?_,?_,?_⟩<;>(rintro rfl;exact absurd h (by decide))
def Sk {c:UInt8} (h:kW c=true):pr c=true:=by
 simp[kW,isLet,oH,pr] at h ⊢;omega
def AV {s:List UInt8} (h:cq s=true):NL s/\s.length<=12/\∃c r,s=c::r/\kW c=true:=by
 cases s with
 | nil=>cases h
 | cons c r=>
  simp only[cq,cI,gX] at h;obtain⟨⟨⟨h1,h2⟩,_⟩,h4⟩:=h;have hc:kW c=true:=by simp[kW,h2]
  refine⟨λx hx=>?_,by simpa using h1,c,r,rfl,hc⟩;rcases ik.1 hx with rfl | hx
  ·exact Sk hc
  ·exact Sk (gY.1 h4 x hx)
def Yj {l:List UInt8} (h:∀c∈l,oH c=true):NL l:=λc hc=>Sk (show kW c=true by simp[kW,h c hc])
def alR {n:Int} (h0 : -9223372036854775808<=n) (h1:n<=9223372036854775807):NL (pM n):=by
 have e2:(10:Nat) ^ (19+1)=100000000000000000000:=by decide
 unfold pM;split
 ·exact vE.2 ⟨by decide,Yj (zP 19 n.natAbs (by rw[e2];omega)).1⟩
 ·exact Yj (zP 19 n.toNat (by rw[e2];omega)).1
def ZT {v:Nat} (h:v < 16):pr (rf v)=true:=by
 have:((List.range 16).all λv=>pr (rf v))=true:=by decide
 exact WM this v h
def aqC (c:UInt8):NL (qc c)/\(qc c).length<=4:=by
 have hc:=c.toNat_lt;have p:32<=c.toNat->c.toNat<=126->pr c=true:=λh h'=>by simp[pr,h,h']
 unfold qc;split
 ·exact⟨vE.2 ⟨by decide,vE.2 ⟨p (by omega) (by omega),zw⟩⟩,by simp⟩
 ·split
  ·exact⟨cg,by simp⟩
  ·split
   ·exact⟨vE.2 ⟨by decide,vE.2 ⟨by decide,vE.2 ⟨ZT (by omega),vE.2 ⟨ZT (by omega),zw⟩⟩⟩⟩,by simp⟩
   ·exact⟨vE.2 ⟨p (by omega) (by omega),zw⟩,by simp⟩
def aqD (s:List UInt8):NL (yQ s)/\(yQ s).length<=4 * s.length+2:=by
 have:NL (s.flatMap qc)/\(s.flatMap qc).length<=4 * s.length:=by
  induction s with
  | nil=>exact⟨zw,by simp⟩
  | cons c r ih=>
   rw[Oh];have:=aqC c;exact⟨eh.2 ⟨this.1,ih.1⟩,by simp only[fH,jl];omega⟩
 unfold yQ;exact⟨vE.2 ⟨by decide,eh.2 ⟨this.1,cg⟩⟩,by simp only[jl,fH,mL];omega⟩
def aru (k:Int):NL (rX k):=by
 unfold rX;repeat' split
 all_goals exact cg
def X4 (k:Int):NL (uw k):=by
 unfold uw;repeat' split
 all_goals exact cg
def Il:∀{t:TT},wR t->NL (gf t)/\(gf t).length<=110 * t.size
 | .lf k nm z tx,h=>by
  rcases h with⟨rfl,h,rfl,rfl⟩ | ⟨rfl,rfl,rfl,h,h'⟩ | ⟨rfl,rfl,rfl,h⟩ | ⟨rfl,rfl,rfl,h⟩ | ⟨rfl,rfl,rfl,rfl⟩ | ⟨rfl,rfl,rfl,rfl⟩
  ·have:=AV h;exact⟨this.1,show nm.length<=110 by omega⟩
  ·have:=alS h h';exact⟨alR h h',show (pM z).length<=110 by omega⟩
  ·rcases h with rfl | rfl<;>exact⟨cg,by decide⟩
  ·have:=aqD tx;exact⟨this.1,show (yQ tx).length<=110 by omega⟩
  ·exact⟨cg,by decide⟩
  ·exact⟨cg,by decide⟩
 | .un k a,h=>by
  have ih:=Il h.2;have:=Jn k;have:=X4 k;simp only[gf,TT.size];split<;>simp only[eh,fH,jl,mL]<;>exact⟨by simp only[ih.1,this,nD,and_true];exact⟨cg,cg⟩,by omega⟩
 | .bi k a b,h=>by
  have ih:=Il h.2.1;have GF:=Il h.2.2;have:=Jn k;have:=aef k;have c:=X4 k;have s:=aru k;simp only[gf,TT.size];split<;>simp only[eh,fH,jl,mL]<;>refine⟨?_,by omega⟩
  ·exact⟨⟨⟨⟨cg,ih.1⟩,⟨cg,s⟩,cg⟩,GF.1⟩,cg⟩
  ·exact⟨⟨⟨⟨⟨c,cg⟩,ih.1⟩,cg⟩,GF.1⟩,cg⟩
def GK {l:List (List UInt8)} (h:∀y∈l,NL y):NL (lS l):=by
 cases l with
 | nil=>exact zw
 | cons x t=>
  refine eh.2 ⟨h x jD,λc hc=>?_⟩;unfold mz at hc;obtain⟨y,hy,hc⟩:=Oi.1 hc;exact eh.2 ⟨cg,h y (jC _ hy)⟩ c hc
def GL {l:List (List UInt8)} {N:Nat} (h:∀y∈l,y.length<=N):(lS l).length<=(N+2) * l.length:=by
 have tl:∀t:List (List UInt8),(∀y∈t,y.length<=N)->(mz t).length<=(N+2) * t.length:=by
  intro t;induction t with
  | nil=>intro _;simp[mz]
  | cons y t ih=>
   intro h;have h1:=h y jD;have h2:=ih λy hy=>h y (jC _ hy)
   simp only[mz,Oh,fH,jl,mL,Nat.mul_add,EL] at h2 ⊢;omega
 cases l with
 | nil=>simp[lS]
 | cons x t=>
  have h1:=h x jD;have h2:=tl t λy hy=>h y (jC _ hy)
  simp only[lS,fH,jl,Nat.mul_add,EL] at h2 ⊢;omega
def agP {k:Int} {x:List UInt8} (h:(k,x)∈jb):NL (pz k x):=by
 simp only[jb,ik,uc,ub,iB] at h;rcases h with⟨rfl,rfl⟩ | ⟨rfl,rfl⟩ | ⟨rfl,rfl⟩ | ⟨rfl,rfl⟩ | ⟨rfl,rfl⟩ | ⟨rfl,rfl⟩ | ⟨rfl,rfl⟩ | ⟨rfl,rfl⟩ | ⟨rfl,rfl⟩ | ⟨rfl,rfl⟩ | ⟨rfl,rfl⟩ | ⟨rfl,rfl⟩ | ⟨rfl,rfl⟩;all_goals exact cg
def arK {tm:List TM} (hT:iW tm) {t:TT} {i:Int} (h:t.at_ (tm.map bH) i):t.size<=3:=by
 have leaf:∀{a:TT} {x:Int} {j:Nat} {u:TM},a.at_ (tm.map bH) x->x=(j:Int)->tm[j]? = some u->yC u->a.size=1:=by
  intro a x j u ha hx hj hl;have g:(tm.map bH)[j]? = some (bH u):=by rw[bQ,hj];rfl
  cases a with
  | lf=>rfl
  | un k a=>
   obtain⟨j',x',e,hr,CN⟩:=ha;rw[show j'=j by omega,g] at hr;obtain⟨y,hy⟩:=TT.zA CN;simp[bH,row] at hr;have:=hl.2.1;omega
  | bi k a b=>
   obtain⟨j',x',y',e,hr,CN,_⟩:=ha;rw[show j'=j by omega,g] at hr;obtain⟨y,hy⟩:=TT.zA CN;simp[bH,row] at hr;have:=hl.2.1;omega
 cases t with
 | lf=>simp[TT.size]
 | un k a=>
  obtain⟨j,x,e,hr,ha⟩:=h;obtain⟨y,hy⟩:=TT.zA ha;obtain⟨u,hu,he⟩:∃u,tm[j]? = some u/\bH u=row k [] 0 [] x (-1):=by
   rw[bQ] at hr;cases hj:tm[j]? with
   | none=>rw[hj] at hr;cases hr
   | some u=>rw[hj] at hr;exact⟨u,rfl,ue hr⟩
  simp[bH,row] at he;rcases hT j u hu with hl | ⟨_,_,a',b',_,_,_,h2,_⟩
  ·have:=hl.2.1;omega
  ·omega
 | bi k a b=>
  obtain⟨j,x,y,e,hr,ha,hb⟩:=h;obtain⟨x',fF⟩:=TT.zA ha;obtain⟨u,hu,he⟩:∃u,tm[j]? = some u/\bH u=row k [] 0 [] x y:=by
   rw[bQ] at hr;cases hj:tm[j]? with
   | none=>rw[hj] at hr;cases hr
   | some u=>rw[hj] at hr;exact⟨u,rfl,ue hr⟩
  simp[bH,row] at he;rcases hT j u hu with hl | ⟨_,_,a',b',u1,u2,h1,h2,_,_,_,h6,h7,h8,h9,_⟩
  ·have:=hl.2.1;omega
  ·have:=leaf ha (by omega) h6 h8;have:=leaf hb (by omega) h7 h9;simp[TT.size];omega
end
section
open Go Go.ax QQ
def kO (k:Int):Bool:=k==1||k==2||k==4||k==7||k==8||k==9
structure vB (s:PS):Prop where
 k0:0<=s.kd/\s.kd<=10
 go:s.kd≠3->s.kd≠5->s.ws=[]
 ng:kO s.kd=false->s.nx = -1
 i2:s.kd=3->s.ws.length=2
 h1:s.kd=5->1<=s.ws.length/\∀w∈s.ws,(w.lb=[]\/cq w.lb=true)/\(w.nm=[]\/cq w.nm=true)
 n1:(s.kd=1\/s.kd=9\/s.kd=4\/s.kd=5\/s.kd=8)->cq s.nm=true
 n2:(s.kd=4\/s.kd=5\/s.kd=8)->cq s.pr=true
 n3:(s.kd=4\/s.kd=8)->cq s.lb=true
 n4:(s.kd=6\/s.kd=7)->cq s.pc=true
 n5:s.kd=8->∀c∈s.cs,cq c.ro=true/\cq c.pc=true
def bq (s:PS):List Int:=if kO s.kd then[s.nx] else s.ws.map WR.nx
section
variable {m:Nat} {Q:V->List (List C)->Prop}
def ig (hm:20<=m) {s:BB} {K:bu.T->OR} (h:Wp (K (cq s,())) Q):Wp (fc (T m) s K) Q:=
 jk (x:=(cq s,())) (Go.Proofs.YtfmpdgeiodnnfaaGreatDoor.wJ m hm s) rfl h
def Vh {N:Nat} (hm:N+10<=m) {b:Bool} {l:List BB} (hl:l.length<=N) (hN:N<=1000000) {s:BB} {K:bu.T->OR} (h:∀b,Wp (K (b,())) Q):Wp (zG (T m) b (l.map aE) s K) Q:=jk (QP (by omega) (by omega)) rfl (h _)
def N0 {N:Nat} (hm:N+20<=m) {b:Bool} {l:List BB} (hl:l.length<=N) (hN:N<=1000000) {K:bu.T->OR} (h:∀b,Wp (K (b,())) Q):Wp (vK (T m) b (l.map aE) K) Q:=jk (acm (by omega) (by omega)) rfl (h _)
def okW (w:WR):Prop:=(w.lb=[]\/cq w.lb=true)/\(w.nm=[]\/cq w.nm=true)
def afL (q:Nat) (hq:160<=q) (wb:Bool) (ws:List WR) (hl:ws.length<=100) {K:bu.T->OR} (h:∀b,(b=true->∀w∈ws,okW w)->Wp (K (b,())) Q) {a1:Bool}:∀(c i:Nat) (o:List BB),ws.length - i < c->i<=ws.length->o.length=i->(∀(j:Nat) w,j < i->ws[j]? = some w->okW w)->
  Wp (lD (T q) q c (o.map aE) wb (ws.map cW) (ae (ws.map cW).length) (i:Int)) (J bu K Q)
 | 0,i,o,hc,_,_,_=>by omega
 | c+1,i,o,hc,hi,ho,bh=>by
  have fl:Wp (rF) (J bu K Q):=aB (aH rfl (h false (λh0=>by cases h0)));refine aG aoW (aj (λg1=>?_) (λg1=>?_))
  ·have af:i < ws.length:=bW g1;have hg:ws[i]? = some ws[i]:=gE af;have en:okW ws[i]->Wp (gd ((o.map aE).length==(o.map aE).length&&true&&decide (((o.map aE).length+1) * 16<=140737488355328)) (lD (T q) q c (o.map aE++whole ([[D.str []]].set 0 [D.str ws[i].lb])) wb (ws.map cW) (ae (ws.map cW).length) (ak ((i:Int)+1)))) (J bu K Q):=by
    intro hw;refine az (gW (by simp;omega) (by omega)) ?_;rw[wI i,dZ]
    have := afL q hq wb ws hl h (a1 := a1) c (i + 1) (o ++ [ws[i].lb]) (by omega) (by omega) (by simp; omega) (by
      intro j w hj pK
      by_cases Gb : j < i
      · exact bh j w Gb pK
      · rw[show j = i by omega, hg] at pK; cases pK; exact hw)
    rw[eF] at this;exact this
   refine aS A8 rfl hg ?_;dsimp only;have e1:∀{x:BB},(x==[])=true->x=[]:=λh=>by simpa using h
   have e2:∀{x:BB},(!x==[])=false->x=[]:=λh=>by simpa using h
   have e3:∀{b:Bool},(!b)=false->b=true:=λh=>by simpa using h
   refine aj (λg2=>aj (λ_=>fl) (λg3=>aj (λg4=>?_) (λg4=>aj (λg5=>?_) (λg5=>en ⟨.inl (e1 g2),.inl (e2 g5)⟩)))) (λg2=>aj (λg4=>?_) (λg4=>aj (λg5=>?_) (λg5=>en ⟨.inl (e2 g4),.inl (e2 g5)⟩)))
   ·refine ig (m:=q) (by omega) (aj (λ_=>fl) (λg5=>aj (λg6=>ig (m:=q) (by omega) (aj (λ_=>fl) (λg7=>en ⟨.inr (e3 g5),.inr (e3 g7)⟩))) (λg6=>en ⟨.inr (e3 g5),.inl (e2 g6)⟩)))
   ·exact ig (m:=q) (by omega) (aj (λ_=>fl) (λg7=>en ⟨.inl (e1 g2),.inr (e3 g7)⟩))
   ·refine ig (m:=q) (by omega) (aj (λ_=>fl) (λg5=>aj (λg6=>ig (m:=q) (by omega) (aj (λ_=>fl) (λg7=>en ⟨.inr (e3 g5),.inr (e3 g7)⟩))) (λg6=>en ⟨.inr (e3 g5),.inl (e2 g6)⟩)))
   ·exact ig (m:=q) (by omega) (aj (λ_=>fl) (λg7=>en ⟨.inl (e2 g4),.inr (e3 g7)⟩))
  ·have fB:i=ws.length:=by
    have g2:¬ (i:Int) < ae (ws.map cW).length:=lj g1;rw[cm,cX] at g2;omega
   refine az (by simp) ?_;rw[dZ,pR];refine N0 (m:=q) (N:=100) (by omega) (by omega) (by omega) λb=>aB (aH rfl (h b (λ_ w hw=>?_)))
   obtain⟨j,hj,Rq⟩:=ER hw;exact bh j w (by omega) (by rw[gE hj,Rq])
end
end
section
open Go Go.ax QQ
section
variable {m:Nat} {Q:V->List (List C)->Prop}
def afH (hm:170<=m) {kd:Int} {x1 x2 x3 x4:BB} {x5:Int} {x6:Bool} {x7:RR} {x8:Bool} {x9:RR} {wb:Bool} {ws:List WR} (hl:ws.length<=100) {aX:Int} {K:bu.T->OR}
  (h:∀b,(b=true->(kd=3->ws.length=2)/\(kd≠3->1<=ws.length/\∀w∈ws,okW w))->Wp (K (b,())) Q):Wp (c154 (T m) kd x1 x2 x3 x4 x5 x6 x7 x8 x9 wb (ws.map cW) aX K) Q:=by
 obtain⟨m,rfl⟩:=bT hm;have fl:Wp (rF) (J bu K Q):=aB (aH rfl (h false (λh0=>by cases h0)));refine bI ai5 (aj (λg1=>aj (λg2=>?_) (λ_=>fl)) (λg1=>?_))
 ·have hk:kd=3:=by simpa using g1
  have h2:ws.length=2:=by
   have g3:(ae (ws.map cW).length==2)=true:=g2;rw[cm,cX] at g3;have:=kv.1 g3;omega
  have g0:(ws.map cW)[0]? = some (cW (ws[0]'(by omega))):=by rw[bQ,gE (by omega)];rfl
  have pD:(ws.map cW)[1]? = some (cW (ws[1]'(by omega))):=by rw[bQ,gE (by omega)];rfl
  have me:∀b,Wp (some (.one (bC b),[])) (J bu K Q):=λb=>aB (aH rfl (h b (λ_=>⟨λ_=>h2,λh0=>absurd hk h0⟩)))
  refine aG (yR (r:=cW (ws[0]'(by omega))) (v:=((ws[0]'(by omega)).lb,())) g0 (by simp[cW]) rfl rfl) (aj (λ_=>?_) (λ_=>fl));refine aG (yR (r:=cW (ws[0]'(by omega))) (v:=((ws[0]'(by omega)).nm,())) g0 (by simp[cW]) rfl rfl) (aj (λ_=>?_) (λ_=>fl));refine aG (yR (r:=cW (ws[1]'(by omega))) (v:=((ws[1]'(by omega)).lb,())) pD (by simp[cW]) rfl rfl) (aj (λ_=>?_) (λ_=>fl));exact aG (yR (r:=cW (ws[1]'(by omega))) (v:=((ws[1]'(by omega)).nm,())) pD (by simp[cW]) rfl rfl) (me _)
 ·have hk:kd≠3:=by simpa using g1
  refine aj (λ_=>fl) (λg2=>aj (λ_=>fl) (λg3=>?_));have h1:1<=ws.length:=by
   have g4:¬ ae (ws.map cW).length < 1:=lj g2;rw[cm,cX] at g4;omega
  obtain⟨r,hr⟩:=bl 1 m;have e1:Mi (T m) m m=Mi (T m) m (r+1):=by rw[<-hr]
  have e0:Mh (T m) m m=Mh (T m) m (r+1):=by rw[<-hr]
  rw[e1];refine aG aoX ?_;rw[e0];refine aG aoV (cF (aM (by show (0:Int) < ae (ws.map cW).length;rw[cm,cX];omega)) ?_);have en:okW (ws[0]'(by omega))->Wp (gd (true&&true&&true) (lD (T m) m r [[.str (ws[0]'(by omega)).lb]] wb (ws.map cW) (ae (ws.map cW).length) (ak (1)))) (J bu K Q):=by
   intro hw;refine az rfl ?_
   exact afL m (by omega) wb ws hl (λb hb => h b (λh0 => ⟨λh0' => absurd h0' hk, λ_ => ⟨h1, hb h0⟩⟩)) (a1 := true) r 1 [(ws[0]'(by omega)).lb] (by omega) (by omega) rfl (by
     intro j w hj pK
     rw[show j = 0 by omega, gE (by omega)] at pK; cases pK; exact hw)
  refine aS A8 (i:=0) rfl (gE (show 0 < ws.length by omega)) ?_;dsimp only;have e1:∀{x:BB},(x==[])=true->x=[]:=λh=>by simpa using h
  have e2:∀{x:BB},(!x==[])=false->x=[]:=λh=>by simpa using h
  have e3:∀{b:Bool},(!b)=false->b=true:=λh=>by simpa using h
  refine aj (λg2=>aj (λ_=>fl) (λg3=>aj (λg4=>?_) (λg4=>aj (λg5=>?_) (λg5=>en ⟨.inl (e1 g2),.inl (e2 g5)⟩)))) (λg2=>aj (λg4=>?_) (λg4=>aj (λg5=>?_) (λg5=>en ⟨.inl (e2 g4),.inl (e2 g5)⟩)))
  ·refine ig (m:=m) (by omega) (aj (λ_=>fl) (λg5=>aj (λg6=>ig (m:=m) (by omega) (aj (λ_=>fl) (λg7=>en ⟨.inr (e3 g5),.inr (e3 g7)⟩))) (λg6=>en ⟨.inr (e3 g5),.inl (e2 g6)⟩)))
  ·exact ig (m:=m) (by omega) (aj (λ_=>fl) (λg7=>en ⟨.inl (e1 g2),.inr (e3 g7)⟩))
  ·refine ig (m:=m) (by omega) (aj (λ_=>fl) (λg5=>aj (λg6=>ig (m:=m) (by omega) (aj (λ_=>fl) (λg7=>en ⟨.inr (e3 g5),.inr (e3 g7)⟩))) (λg6=>en ⟨.inr (e3 g5),.inl (e2 g6)⟩)))
  ·exact ig (m:=m) (by omega) (aj (λ_=>fl) (λg7=>en ⟨.inl (e2 g4),.inr (e3 g7)⟩))
def afo (hm:1<=m) {k:Int} {K:bu.T->OR} (h:Wp (K (kO k,())) Q):Wp (Pa (T m) k K) Q:=by
 obtain⟨m,rfl⟩:=bT hm;refine bI aiV ?_;have me:∀b,kO k=b->Wp (some (.one (bC b),[])) (J bu K Q):=λb hb=>aB (aH rfl (by rw[<-hb];exact h))
 refine aj (λg1=>me true (by simp only[kO,g1];rfl)) (λg1=>?_);refine aj (λg2=>me true (by simp only[kO,g1,g2];rfl)) (λg2=>?_);refine aj (λg3=>me true (by simp only[kO,g1,g2,g3];rfl)) (λg3=>?_);refine aj (λg4=>me true (by simp only[kO,g1,g2,g3,g4];rfl)) (λg4=>?_);refine aj (λg5=>me true (by simp only[kO,g1,g2,g3,g4,g5];rfl)) (λg5=>?_);exact aj (λg6=>me true (by simp only[kO,g1,g2,g3,g4,g5,g6];rfl)) (λg6=>me false (by simp only[kO,g1,g2,g3,g4,g5,g6];rfl))
def as6 (hm:5<=m) {kd:Int} {x1 x2 x3 x4:BB} {x5:Int} {x6:Bool} {x7:RR} {x8:Bool} {x9:RR} {wb:Bool} {ws:RR} {nx:Int} {K:HZ.T->OR}
  (h:∀y1 y2 y3 y4 y5 y6 y8 b e8 My,(kd≠3->kd≠5->e8=ws)->(kO kd=false->My=nx)->Wp (K ((kd,y1,y2,y3,y4,y5,y6,y8,(b,e8),My,()),())) Q):Wp (Xr (T m) kd x1 x2 x3 x4 x5 x6 x7 x8 x9 wb ws nx K) Q:=by
 obtain⟨m,rfl⟩:=bl 2 m;refine bI aiQ ?_;have rest:∀(y1 y2 y3 y4:BB) (y5:Int) (y6 y8:Bool×RR) (b:Bool) (e8:RR) (a1:aq ez),(kd≠3->kd≠5->e8=ws)->Wp (rD (T (m+1)) (m+1) (m+1) (kd,y1,y2,y3,y4,y5,y6,y8,(b,e8),nx,()) a1) (J HZ K Q):=by
  intro y1 y2 y3 y4 y5 y6 y8 b e8 a1 hw;refine aG aof (afo (m:=m+1) (by omega) (aj (λg=>aB ?_) (λg=>aB ?_)))
  ·exact aH rfl (h y1 y2 y3 y4 y5 y6 y8 b e8 (-1) hw (λh0=>by have g':kO kd=true:=g;rw[h0] at g';cases g'))
  ·exact aH rfl (h y1 y2 y3 y4 y5 y6 y8 b e8 nx hw (λ_=>rfl))
 have e:∀{z:Int},(kd==z)=true->kd=z:=λh=>by simpa using h
 exact aj (λ_=>rest _ _ _ _ _ _ _ _ _ _ (λ_ _=>rfl)) (λ_=>aj (λ_=>rest _ _ _ _ _ _ _ _ _ _ (λ_ _=>rfl)) (λ_=>aj (λg=>rest _ _ _ _ _ _ _ _ _ _ (λh0 _=>absurd (e g) h0)) (λ_=>aj (λ_=>rest _ _ _ _ _ _ _ _ _ _ (λ_ _=>rfl)) (λ_=>aj (λg=>rest _ _ _ _ _ _ _ _ _ _ (λ_ h0=>absurd (e g) h0)) (λ_=>aj (λ_=>rest _ _ _ _ _ _ _ _ _ _ (λ_ _=>rfl)) (λ_=>aj (λ_=>rest _ _ _ _ _ _ _ _ _ _ (λ_ _=>rfl)) (λ_=>aj (λ_=>rest _ _ _ _ _ _ _ _ _ _ (λ_ _=>rfl)) (λ_=>aj (λ_=>rest _ _ _ _ _ _ _ _ _ _ (λ_ _=>rfl)) (λ_=>rest _ _ _ _ _ _ _ _ _ _ (λ_ _=>rfl))))))))))
def XS (q:Nat) (hq:100<=q) (cb:Bool) (cs:List CR) (hl:cs.length<=100) {K:bu.T->OR} (h:∀b,(b=true->∀c∈cs,cq c.ro=true/\cq c.pc=true)->Wp (K (b,())) Q):∀(c i:Nat),cs.length - i < c->i<=cs.length->(∀(j:Nat) x,j < i->cs[j]? = some x->cq x.ro=true/\cq x.pc=true)->
  Wp (LS (T q) q c cb (cs.map eM) (ae (cs.map eM).length) (i:Int)) (J bu K Q)
 | 0,i,hc,_,_=>by omega
 | c+1,i,hc,hi,bh=>by
  have fl:Wp (rF) (J bu K Q):=aB (aH rfl (h false (λh0=>by cases h0)));have e3:∀{b:Bool},(!b)=false->b=true:=λh=>by simpa using h
  refine aG aom (aj (λg1=>?_) (λg1=>?_))
  ·have af:i < cs.length:=bW g1;have hg:cs[i]? = some cs[i]:=gE af;refine aS (enc:=eM) (f:=λc=>(c.ro,c.pc,(c.gt,c.ag.map bN),())) (λa=>⟨by simp[eM],rfl⟩) rfl hg ?_;refine ig (m:=q) (by omega) (aj (λ_=>fl) (λg2=>ig (m:=q) (by omega) (aj (λ_=>fl) (λg3=>aj (λ_=>fl) (λ_=>?_)))));rw[wI i];refine XS q hq cb cs hl h c (i+1) (by omega) (by omega) ?_;intro j w hj pK;by_cases Gb:j < i
   ·exact bh j w Gb pK
   ·rw[show j=i by omega,hg] at pK;cases pK;exact⟨e3 g2,e3 g3⟩
  ·have fB:i=cs.length:=by
    have g2:¬ (i:Int) < ae (cs.map eM).length:=lj g1;rw[cm,cX] at g2;omega
   refine aB (aH rfl (h true (λ_ w hw=>?_)));obtain⟨j,hj,Rq⟩:=ER hw;exact bh j w (by omega) (by rw[gE hj,Rq])
end
end
section
open Go Go.ax QQ
section
variable {m:Nat} {Q:V->List (List C)->Prop}
def tS (s:PS):aq ez:=(s.kd,s.nm,s.pr,s.lb,s.pc,s.tm,(s.gt,s.ag.map bN),(s.ct,s.cs.map eM),(s.wb,s.ws.map cW),s.nx,())
structure Ow (s:PS):Prop where
 k0:0<=s.kd/\s.kd<=10
 go:s.kd≠3->s.kd≠5->s.ws=[]
 ng:kO s.kd=false->s.nx = -1
def Ow.mk' {s:PS} (h:Ow s) (i2:s.kd=3->s.ws.length=2) (h1:s.kd=5->1<=s.ws.length/\∀w∈s.ws,okW w) (n1:(s.kd=1\/s.kd=9\/s.kd=4\/s.kd=5\/s.kd=8)->cq s.nm=true)
  (n2:(s.kd=4\/s.kd=5\/s.kd=8)->cq s.pr=true) (n3:(s.kd=4\/s.kd=8)->cq s.lb=true) (n4:(s.kd=6\/s.kd=7)->cq s.pc=true) (n5:s.kd=8->∀c∈s.cs,cq c.ro=true/\cq c.pc=true):vB s:=
 ⟨h.k0,h.go,h.ng,i2,h1,n1,n2,n3,n4,n5⟩
def apA (q:Nat) (hq:180<=q) {s:PS} (ho:mD s) (h0:Ow s) (a1:aq ez) {K:bu.T->OR} (h:∀b,(b=true->vB s)->Wp (K (b,())) Q) :
  Wp (Hg (T q) q q (tS s) a1) (J bu K Q):=by
 obtain⟨r,hr⟩:=bl 1 q;have e2:Hg (T q) q q=Hg (T q) q (r+1):=by rw[<-hr]
 have e1:LU (T q) q q=LU (T q) q (r+1):=by rw[<-hr]
 have fl:Wp (rF) (J bu K Q):=aB (aH rfl (h false (λh0=>by cases h0)));have me:∀b,(b=true->vB s)->Wp (some (.one (bC b),[])) (J bu K Q):=λb hb=>aB (aH rfl (h b hb))
 have eq:∀{z:Int},(s.kd==z)=true->s.kd=z:=λh=>by simpa using h
 have e3:∀{b:Bool},(!b)=false->b=true:=λh=>by simpa using h
 have ne:∀{z:Int},(s.kd==z)=false->s.kd≠z:=λh=>by simpa using h
 rw[e2];refine aG aoo ?_;refine aj (λg=>ig (m:=q) (by omega) (me _ λhb=>?_)) (λg1=>?_)
 ·have:=eq g;exact h0.mk' (λ_=>by omega) (λ_=>by omega) (λ_=>hb) (λ_=>by omega) (λ_=>by omega) (λ_=>by omega) (λ_=>by omega)
 refine aj (λg=>ig (m:=q) (by omega) (me _ λhb=>?_)) (λg2=>?_)
 ·have:=eq g;exact h0.mk' (λ_=>by omega) (λ_=>by omega) (λ_=>hb) (λ_=>by omega) (λ_=>by omega) (λ_=>by omega) (λ_=>by omega)
 refine aj (λg=>afH (m:=q) (by omega) ho.2.2.2 λb hb=>me _ λvT=>?_) (λg3=>?_)
 ·have:=eq g;exact h0.mk' (hb vT).1 (λ_=>by omega) (λ_=>by omega) (λ_=>by omega) (λ_=>by omega) (λ_=>by omega) (λ_=>by omega)
 refine aj (λg=>ig (m:=q) (by omega) (aj (λb1=>ig (m:=q) (by omega) (aj (λb2=>ig (m:=q) (by omega) (me _ λb3=>?_)) (λ_=>fl))) (λ_=>fl))) (λg4=>?_)
 ·have:=eq g;exact h0.mk' (λ_=>by omega) (λ_=>by omega) (λ_=>b1) (λ_=>b2) (λ_=>b3) (λ_=>by omega) (λ_=>by omega)
 refine aj (λg=>ig (m:=q) (by omega) (aj (λb1=>ig (m:=q) (by omega) (aj (λb2=>afH (m:=q) (by omega) ho.2.2.2 λb hb=>me _ λvT=>?_) (λ_=>fl))) (λ_=>fl))) (λg5=>?_)
 ·have:=eq g;exact h0.mk' (λ_=>by omega) (λ_=>(hb vT).2 (by show s.kd≠3;omega)) (λ_=>b1) (λ_=>b2) (λ_=>by omega) (λ_=>by omega) (λ_=>by omega)
 refine aj (λg=>ig (m:=q) (by omega) (aj (λb1=>me _ λ_=>?_) (λ_=>fl))) (λg6=>?_)
 ·have:=eq g;exact h0.mk' (λ_=>by omega) (λ_=>by omega) (λ_=>by omega) (λ_=>by omega) (λ_=>by omega) (λ_=>b1) (λ_=>by omega)
 refine aj (λg=>ig (m:=q) (by omega) (aj (λb1=>me _ λ_=>?_) (λ_=>fl))) (λg7=>?_)
 ·have:=eq g;exact h0.mk' (λ_=>by omega) (λ_=>by omega) (λ_=>by omega) (λ_=>by omega) (λ_=>by omega) (λ_=>b1) (λ_=>by omega)
 refine aj (λg=>ig (m:=q) (by omega) (aj (λ_=>fl) (λb1=>ig (m:=q) (by omega) (aj (λ_=>fl) (λb2=>ig (m:=q) (by omega) (aj (λ_=>fl) (λb3=>aj (λ_=>fl) (λ_=>aj (λ_=>fl) (λ_=>?_))))))))) (λg8=>me true λ_=>?_)
 ·have:=eq g;rw[e1];refine aG aon ?_;refine XS q (by omega) s.ct s.cs ho.2.1 (λb hb=>h b λvT=>?_) q 0 (by have:=ho.2.1;omega) (by omega) (λj x hj=>by omega);exact h0.mk' (λ_=>by omega) (λ_=>by omega) (λ_=>e3 b1) (λ_=>e3 b3) (λ_=>e3 b2) (λ_=>by omega) (λ_=>hb vT)
 ·have:=ne g1;have:=ne g2;have:=ne g3;have:=ne g4;have:=ne g5;have:=ne g6;have:=ne g7;have:=ne g8;exact h0.mk' (λ_=>by omega) (λ_=>by omega) (λ_=>by omega) (λ_=>by omega) (λ_=>by omega) (λ_=>by omega) (λ_=>by omega)
def asV (hm:190<=m) {s:PS} (ho:mD s) {K:bu.T->OR} (h:∀b,(b=true->vB s)->Wp (K (b,())) Q) :
  Wp (XK (T m) s.kd s.nm s.pr s.lb s.pc s.tm s.gt (s.ag.map bN) s.ct (s.cs.map eM) s.wb (s.ws.map cW) s.nx K) Q:=by
 obtain⟨m,rfl⟩:=bT hm;have fl:Wp (rF) (J bu K Q):=aB (aH rfl (h false (λh0=>by cases h0)));refine bI aiX (aj (λ_=>fl) (λk1=>aj (λ_=>fl) (λk2=>?_)));obtain⟨r,hr⟩:=bl 1 m;have e3:LV (T m) m m=LV (T m) m (r+1):=by rw[<-hr]
 rw[e3];refine aG aop ?_;refine as6 (m:=m) (by omega) λy1 y2 y3 y4 y5 y6 y8 b e8 My hw hn=>?_
 refine aj (λ_=>fl) (λ_=>aj (λ_=>fl) (λ_=>aj (λ_=>fl) (λ_=>aj (λ_=>fl) (λ_=>aj (λ_=>fl) (λ_=>aj (λ_=>fl) (λ_=>aj (λ_=>fl) (λ_=>aj (λ_=>fl) (λf8=>aj (λ_=>fl) (λf9=>?_)))))))));refine apA m (by omega) ho ⟨⟨?_,?_⟩,λh3 h5=>?_,λhg=>?_⟩ _ h
 ·have:¬ s.kd < 0:=lj k1;omega
 ·have:¬ s.kd > 10:=lj k2;omega
 ·have f:¬ ae e8.length > 0:=lj f8;rw[hw h3 h5,cm,cX] at f;exact p7.1 (by omega)
 ·have f:(My != -1)=false:=f9;rw[hn hg] at f;exact VN.1 f
def ab2 (q:Nat) (wb:Bool) (ws:List WR) (hl:ws.length<=100) {K:de.T->OR} (h:∀b,Wp (K ((b,(ws.map WR.nx).map bN),())) Q):∀(c i:Nat),ws.length - i < c->i<=ws.length->
  Wp (LY (T q) q c (((ws.map WR.nx).take i).map bN) wb (ws.map cW) (ae (ws.map cW).length) (i:Int)) (J de K Q)
 | 0,i,hc,_=>by omega
 | c+1,i,hc,hi=>by
  refine aG aor (aj (λg1=>?_) (λg1=>?_))
  ·have af:i < ws.length:=bW g1;have hg:ws[i]? = some ws[i]:=gE af;refine aS A8 rfl hg (az (gW (by simp;omega) (by omega)) ?_);rw[wI i,dZ];have:=ab2 q wb ws hl h c (i+1) (by omega) (by omega);rw[sq,show (ws.map WR.nx)[i]?.toList=[ws[i].nx] by rw[bQ,hg];rfl,eF] at this;exact this
  ·have fB:i=ws.length:=by
    have g2:¬ (i:Int) < ae (ws.map cW).length:=lj g1;rw[cm,cX] at g2;omega
   refine az (by simp) ?_;rw[dZ,HJ,zn (by simp;omega)];exact aB (aH rfl (h false))
def Vk (hm:190<=m) {s:PS} (ho:mD s) {K:de.T->OR} (h:∀b,Wp (K ((b,(bq s).map bN),())) Q) :
  Wp (B6 (T m) s.kd s.nm s.pr s.lb s.pc s.tm s.gt (s.ag.map bN) s.ct (s.cs.map eM) s.wb (s.ws.map cW) s.nx K) Q:=by
 obtain⟨m,rfl⟩:=bT hm;have hl:=ho.2.2.2;refine bI aiY (afo (m:=m) (by omega) (aj (λg=>aB ?_) (λg=>?_)))
 ·have:=h false;unfold bq at this;rw[aP (show kO s.kd=true from g)] at this;exact aH rfl this
 ·unfold bq at h;rw[aI (by rw[show kO s.kd=false from g];simp)] at h;obtain⟨r,hr⟩:=bl 1 m;have e0:LW (T m) m m=LW (T m) m (r+1):=by rw[<-hr]
  rw[e0];refine aG aoq (aj (λg1=>?_) (λg1=>?_))
  ·have af:0 < s.ws.length:=bW g1;have hg:s.ws[0]? = some s.ws[0]:=gE af;refine aS A8 (i:=0) rfl hg (az rfl ?_);have:=ab2 m s.wb s.ws hl h r 1 (by omega) (by omega);rw[sq,show (s.ws.map WR.nx)[0]?.toList=[s.ws[0].nx] by rw[bQ,hg];rfl] at this;exact this
  ·have:s.ws=[]:=by
    have g2:¬ (0:Int) < ae (s.ws.map cW).length:=lj g1;rw[cm,cX] at g2;exact p7.1 (by omega)
   have:=h true;rw[‹s.ws=[]›] at this;exact aB (aH rfl this)
end
end
section
open Go Go.ax QQ
def apH (l:List Int):ni (l.map bN)=true:=by
 cases l with
 | nil=>rfl
 | cons a t=>simp[ni,tV,yv,bN]
def NU (l:List Int) (n:Nat) (b:Bool):fS n (l.map bN) b=true:=by
 unfold fS;rw[apH];rfl
section
variable {m:Nat} {Q:V->List (List C)->Prop}
def OE (K:de.T->OR) (Q:V->List (List C)->Prop):Prop:=∀b (l:List Int),l.length<=20000->Wp (K ((b,l.map bN),())) Q
def NJ (q:Nat) (cb:Bool) (cs:List CR) (hl:cs.length<=100) (hc:∀c∈cs,c.ag.length<=100) {K:de.T->OR} (h:OE K Q):∀(c i:Nat) (o:List Int),cs.length - i < c->i<=cs.length->o.length<=101+100 * i->
  Wp (Hk (T q) q c (o.map bN) cb (cs.map eM) (ae (cs.map eM).length) (i:Int)) (J de K Q)
 | 0,i,o,hc,_,_=>by omega
 | c+1,i,o,cZ,hi,ho=>by
  refine aG aoQ (aj (λg1=>?_) (λg1=>?_))
  ·have af:i < cs.length:=bW g1;have Ah:=hc _ (bU af);refine aS (enc:=eM) (f:=λc=>(c.ro,c.pc,(c.gt,c.ag.map bN),())) (λa=>⟨by simp[eM],rfl⟩) rfl (gE af) (az ?_ ?_)
   ·dsimp only;rw[NU];simp;omega
   ·rw[wI i];dsimp only;rw[<-eF];exact NJ q cb cs hl hc h c (i+1) _ (by omega) (by omega) (by simp;omega)
  ·refine az (by simp) ?_;rw[dZ,HJ];exact aB (aH rfl (h false o (by omega)))
def aeS (q:Nat) (cb:Bool) (cs:List CR) (hl:cs.length<=100) (hc:∀c∈cs,c.ag.length<=100) {K:de.T->OR} (h:OE K Q):∀(c i:Nat),cs.length - i < c->i<=cs.length->
  Wp (Mf (T q) q c true [] cb (cs.map eM) (ae (cs.map eM).length) (i:Int)) (J de K Q)
 | 0,i,cZ,_=>by omega
 | c+1,i,cZ,hi=>by
  refine aG aoR (aj (λg1=>?_) (λg1=>aB (aH rfl (h true [] (by simp)))));have af:i < cs.length:=bW g1;have Ah:=hc _ (bU af);refine aS (enc:=eM) (f:=λc=>(c.ro,c.pc,(c.gt,c.ag.map bN),())) (λa=>⟨by simp[eM],rfl⟩) rfl (gE af) (az ?_ ?_)
  ·dsimp only;rw[NU];simp;omega
  ·rw[wI i];refine aj (λg2=>?_) (λg2=>?_)
   ·have e:cs[i].ag.map bN=[]:=by simpa using g2
    dsimp only;rw[e];exact aeS q cb cs hl hc h c (i+1) (by omega) (by omega)
   ·exact NJ q cb cs hl hc h c (i+1) _ (by omega) (by omega) (by omega)
def afC (hm:210<=m) {s:PS} (ho:mD s) {K:de.T->OR} (h:OE K Q) :
  Wp (Pp (T m) s.kd s.nm s.pr s.lb s.pc s.tm s.gt (s.ag.map bN) s.ct (s.cs.map eM) s.wb (s.ws.map cW) s.nx K) Q:=by
 obtain⟨m,rfl⟩:=bT hm;obtain⟨r,hr⟩:=bl 1 m;have e20:yA (T m) m m=yA (T m) m (r+1):=by rw[<-hr]
 have e21:DJ (T m) m m=DJ (T m) m (r+1):=by rw[<-hr]
 have Yn:Hl (T m) m m=Hl (T m) m (r+1):=by rw[<-hr]
 have e11:Mg (T m) m m=Mg (T m) m (r+1):=by rw[<-hr]
 have Ah:=ho.1;have aU:=ho.2.1;have one:Wp (yA (T m) m m (tS s) ([s.tm].map bN)) (J de K Q):=by
  rw[e20];refine aG aoT (az ?_ ?_)
  ·show (fS 8 (s.ag.map bN) _&&true&&true&&_&&true&&decide ((([s.tm].map bN).length+(s.ag.map bN).length) * 8<=_))=true;rw[NU];simp;omega
  ·rw[Yn];refine aG abd ?_;have:=NJ m s.ct s.cs aU ho.2.2.1 h m 0 ([s.tm]++s.ag) (by omega) (by omega) (by simp;omega);rw[eF] at this;exact this
 have two:Wp (DJ (T m) m m (tS s) true []) (J de K Q):=by
  rw[e21];refine aG aoU (az ?_ (aj (λg=>?_) (λg=>?_)))
  ·show (fS 8 (s.ag.map bN) _&&(true&&true&&decide ((s.ag.map bN).length * 8<=_)))=true;rw[NU];simp;omega
  ·have e:s.ag.map bN=[]:=by
    have:(s.ag.map bN).isEmpty=true:=g;simpa using this
   rw[e11];refine aG aoS ?_;have:=aeS m s.ct s.cs aU ho.2.2.1 h m 0 (by omega) (by omega);rw[<-e] at this;exact this
  ·rw[Yn];refine aG abd ?_;exact NJ m s.ct s.cs aU ho.2.2.1 h m 0 s.ag (by omega) (by omega) (by omega)
 exact bI ai3 (aj (λ_=>one) (λ_=>aj (λ_=>one) (λ_=>aj (λ_=>one) (λ_=>aj (λ_=>aj (λ_=>one) (λ_=>two)) (λ_=>two)))))
def iX (r:RR):aq [.tg 1]:=(mH r,())
def tB (b:Bool) (tm:List TM):aq [.tg 6]:=((.im b,tm.map bH),())
def aeZ (hm:1<=m) {x1:aq nr} {x2:aq [.tg 6]} {x3:aq [.tg 1]} {K:qK.T->OR} (h:Wp (K ((),((),()),x2,x3,())) Q):Wp (aA qK ((T m) 155 [(.one (iC (-1))),pE,(.one (.ptr (.e 1) 0 0)),(.one (.ptr (.e 2) 0 0))] [(bx nr x1),(bx [.tg 6] x2),(bx [.tg 1] x3)]) K) Q:=by
 obtain⟨m,rfl⟩:=bT hm;exact bI P5 (cF rfl (aB (aH rfl h)))
def acz {o:List Nat} (h:o.length<=1000):((iX (o.map aV)).1.2.length==(iX (o.map aV)).1.2.length&&true&&decide (((iX (o.map aV)).1.2.length+1) * 8<=140737488355328))=true:=by
 have e:(iX (o.map aV)).1.2.length=o.length:=by cases o<;>simp[iX,mH]
 rw[e];exact gW (by omega) (by omega)
def WU {o:List Nat} {Z:Tag->OR} (hX:o=[]->Wp (Z (.im true)) Q) (hY:o≠[]->Wp (Z .own) Q):Wp (zZ (mH (o.map aV)).1 Z) Q:=by
 cases o with
 | nil=>exact eL (hX rfl)
 | cons a t=>exact ij (hY (by simp))
def asp (hm:2<=m) {b:Bool} {tm:List TM} {t:TM} {i:Nat} (hi:tm[i]? = some t) {o:List Nat} (ho:o.length<=10) {x1:aq nr} {K:qK.T->OR}
  (hl:∀{K':qK.T->OR} {Q':V->List (List C)->Prop} {y1:aq nr},(∀(o':List Nat),(∀x∈o',x∈o\/x < tm.length)->o'.length<=o.length+1->Wp (K' ((),((),()),tB b tm,iX (o'.map aV),())) Q')->Wp (aA qK ((T (m - 1)) 155 [(.one (iC t.l)),pE,(.one (.ptr (.e 1) 0 0)),(.one (.ptr (.e 2) 0 0))] [(bx nr y1),(bx [.tg 6] (tB b tm)),(bx [.tg 1] (iX (o.map aV)))]) K') Q')
  (hr:∀{K':qK.T->OR} {Q':V->List (List C)->Prop} {y1:aq nr} {o1:List Nat},o1.length<=o.length+1->(∀(o':List Nat),(∀x∈o',x∈o1\/x < tm.length)->o'.length<=o1.length+1->Wp (K' ((),((),()),tB b tm,iX (o'.map aV),())) Q')->Wp (aA qK ((T (m - 1)) 155 [(.one (iC t.r)),pE,(.one (.ptr (.e 1) 0 0)),(.one (.ptr (.e 2) 0 0))] [(bx nr y1),(bx [.tg 6] (tB b tm)),(bx [.tg 1] (iX (o1.map aV)))]) K') Q')
  (h:∀(o':List Nat),(∀x∈o',x∈o\/x < tm.length)->o'.length<=o.length+3->Wp (K ((),((),()),tB b tm,iX (o'.map aV),())) Q) :
  Wp (aA qK ((T m) 155 [(.one (iC (i:Int))),pE,(.one (.ptr (.e 1) 0 0)),(.one (.ptr (.e 2) 0 0))] [(bx nr x1),(bx [.tg 6] (tB b tm)),(bx [.tg 1] (iX (o.map aV)))]) K) Q:=by
 obtain⟨m,rfl⟩:=bT hm;have jn:i < tm.length:=(cd.1 hi).1;have qn:∀a:TM,4+1<=(bH a).length/\dI bO (List.take 1 (List.drop 4 (bH a)))=some (a.l,()):=λa=>⟨by simp[bH],rfl⟩
 have FY:∀a:TM,5+1<=(bH a).length/\dI bO (List.take 1 (List.drop 5 (bH a)))=some (a.r,()):=λa=>⟨by simp[bH],rfl⟩
 refine bI P5 (eW (bm (by omega)) (eL ?_));refine aS (enc:=bH) (f:=λt=>(t.l,())) qn rfl hi ?_;refine hl (λo1 h1 jI=>eL ?_);refine aS (enc:=bH) (f:=λt=>(t.r,())) FY rfl hi ?_;refine hr jI (λo2 h2 ew=>?_);have mem:∀x∈o2++[i],x∈o\/x < tm.length:=by
  intro x hx;rw[dk] at hx;rcases hx with hx | hx
  ·rcases h2 x hx with h3 | h3
   ·exact h1 x h3
   ·exact .inr h3
  ·simp at hx;subst hx;exact .inr jn
 have fin:=h (o2++[i]) mem (by simp;omega);refine WU (o:=o2) (λhe=>az rfl (aB ?_)) (λhe=>az (acz (o:=o2) (by omega)) (aB ?_))
 ·subst he;exact aH rfl fin
 ·rw[dZ];have e:iX ((o2++[i]).map aV)=((.own,o2.map aV++[aV i]),()):=by
   rw[eF];cases o2 with
   | nil=>exact absurd rfl he
   | cons a t=>rfl
  rw[e] at fin;exact aH rfl fin
def U5 (hm:3<=m) {b:Bool} {tm:List TM} {t:TM} {i:Nat} (hi:tm[i]? = some t) (hl:t.l = -1) (hr:t.r = -1) {o:List Nat} (ho:o.length<=10) {x1:aq nr} {K:qK.T->OR}
  (h:∀(o':List Nat),(∀x∈o',x∈o\/x < tm.length)->o'.length<=o.length+1->Wp (K ((),((),()),tB b tm,iX (o'.map aV),())) Q) :
  Wp (aA qK ((T m) 155 [(.one (iC (i:Int))),pE,(.one (.ptr (.e 1) 0 0)),(.one (.ptr (.e 2) 0 0))] [(bx nr x1),(bx [.tg 6] (tB b tm)),(bx [.tg 1] (iX (o.map aV)))]) K) Q:=by
 obtain⟨m,rfl⟩:=bT hm;have jn:i < tm.length:=(cd.1 hi).1;have qn:∀a:TM,4+1<=(bH a).length/\dI bO (List.take 1 (List.drop 4 (bH a)))=some (a.l,()):=λa=>⟨by simp[bH],rfl⟩
 have FY:∀a:TM,5+1<=(bH a).length/\dI bO (List.take 1 (List.drop 5 (bH a)))=some (a.r,()):=λa=>⟨by simp[bH],rfl⟩
 refine bI P5 (eW (bm (by omega)) (eL ?_));refine aS (enc:=bH) (f:=λt=>(t.l,())) qn rfl hi ?_;dsimp only;rw[hl];refine aeZ (by omega) (eL ?_);refine aS (enc:=bH) (f:=λt=>(t.r,())) FY rfl hi ?_;dsimp only;rw[hr];refine aeZ (by omega) ?_
 have fin := h (o ++ [i]) (by
   intro x hx
   rw[dk] at hx
   rcases hx with hx | hx
   · exact .inl hx
   · simp at hx; subst hx; exact .inr jn) (by simp)
 refine WU (o:=o) (λhe=>az rfl (aB ?_)) (λhe=>az (acz (o:=o) (by omega)) (aB ?_))
 ·subst he;exact aH rfl fin
 ·rw[dZ];have e:iX ((o++[i]).map aV)=((.own,o.map aV++[aV i]),()):=by
   rw[eF];cases o with
   | nil=>exact absurd rfl he
   | cons a t=>rfl
  rw[e] at fin;exact aH rfl fin
def atf (hm:10<=m) {b:Bool} {tm:List TM} (hT:iW tm) {i:Nat} (hi:i < tm.length) {K:de.T->OR} (h:∀b (l:List Nat),(∀x∈l,x < tm.length)->l.length<=3->Wp (K ((b,l.map aV),())) Q):Wp (XL (T m) b (tm.map bH) (i:Int) K) Q:=by
 obtain⟨m,rfl⟩:=bT hm;have hg:tm[i]? = some tm[i]:=gE hi;refine bI ai4 ?_;have fin:∀o:List Nat,(∀x∈o,x∈([]:List Nat)\/x < tm.length)->o.length<=3->Wp (zZ (iX (o.map aV)).1.1 λt=>zO t (decide (0+(iX (o.map aV)).1.2.length<=(iX (o.map aV)).1.2.length)) (some ((.one (lC (.im (zB t)) 1 (zW t (iX (o.map aV)).1.2))),[]))) (J de K Q):=by
  intro o ho hl;have af:∀x∈o,x < tm.length:=λx hx=>(ho x hx).elim (λh=>by cases h) id
  cases o with
  | nil=>exact eL (aB (aH rfl (h true [] af (by simp))))
  | cons a t=>
   refine ij (az (by simp) ?_);have e:zW .own (iX ((a::t).map aV)).1.2=(a::t).map aV:=by show aK (whole _)=_;rw[dZ];exact HK (a::t)
   rw[e];exact aB (aH rfl (h false (a::t) af hl))
 rcases hT i _ hg with Ge | ⟨_,_,a,c,x,y,h1,h2,_,_,_,h6,h7,h8,h9,_⟩
 ·exact U5 (m:=m) (b:=b) (tm:=tm) (o:=[]) (by omega) hg Ge.2.1 Ge.2.2.1 (by simp) λo ho hl=>fin o ho (by have:o.length<=1:=hl;omega)
 ·refine asp (m:=m) (b:=b) (tm:=tm) (o:=[]) (by omega) hg (by simp) ?_ ?_ λo ho hl=>fin o ho hl
  ·intro K' Q' y1 hk;rw[h1];exact U5 (m:=m - 1) (by omega) h6 h8.2.1 h8.2.2.1 (by simp) hk
  ·intro K' Q' y1 o1 ho1 hk;rw[h2];exact U5 (m:=m - 1) (by omega) h7 h9.2.1 h9.2.2.1 (by have:o1.length<=1:=ho1;omega) hk
end
end
section
open Go Go.ax QQ
def inc (s:PS):Nat:=if s.kd=3\/s.kd=5 then 1 else 0
def PP (ss:List PS) (at_:Nat):List Int:=(ss.take at_).flatMap bq
def Wx {ss:List PS} {i:Nat} {s:PS} (h:ss[i]? = some s):PP ss (i+1)=PP ss i++bq s:=by
 unfold PP;rw[sq,h];simp
def af8 {ss:List PS} {n i:Nat} {s:PS} {t:Int} (hi:i < n) (h:ss[i]? = some s) (ht:t∈bq s):t∈PP ss n:=by
 unfold PP;rw[Oi];refine⟨s,?_,ht⟩;refine ff (i:=i) ?_;rw[Ob,aP hi,h]
structure SI (ss:List PS) (n:Nat) (cn dp:List Nat):Prop where
 lc:cn.length=ss.length
 ld:dp.length=ss.length
 c:∀k,k < ss.length->cn[k]? = some ((PP ss n).count (k:Int))
 f:∀i s,i < n->ss[i]? = some s->vB s
 e:∀i s t,i < n->ss[i]? = some s->t∈bq s->∃k:Nat,t=(k:Int)/\i < k/\k < ss.length
 u:∀k:Nat,1<=k->k < n->(PP ss n).count (k:Int)=1
 d:∀i s,i < n->ss[i]? = some s->∃x,dp[i]? = some x/\x<=24/\∀k:Nat,(k:Int)∈bq s->(PP ss n).count (k:Int)<=1->∀s',ss[k]? = some s'->dp[k]? = some (if k < n then x+inc s' else x)
 b:∀(k x:Nat),dp[k]? = some x->x<=24
structure SJ (ss:List PS) (n:Nat) (s:PS) (j:Nat) (cn dp:List Nat):Prop where
 lc:cn.length=ss.length
 ld:dp.length=ss.length
 c:∀k,k < ss.length->cn[k]? = some ((PP ss n++(bq s).take j).count (k:Int))
 f:∀i s,i<=n->ss[i]? = some s->vB s
 e:∀i s t,i < n->ss[i]? = some s->t∈bq s->∃k:Nat,t=(k:Int)/\i < k/\k < ss.length
 e':∀t∈(bq s).take j,∃k:Nat,t=(k:Int)/\n < k/\k < ss.length
 u:∀k:Nat,1<=k->k<=n->(PP ss n).count (k:Int)=1
 d':∃x,dp[n]? = some x/\∀k:Nat,(k:Int)∈(bq s).take j->dp[k]? = some x
 d:∀i s1,i < n->ss[i]? = some s1->∃x,dp[i]? = some x/\x<=24/\∀k:Nat,(k:Int)∈bq s1->(PP ss n++(bq s).take j).count (k:Int)<=1->∀s',ss[k]? = some s'->dp[k]? = some (if k<=n then x+inc s' else x)
 b:∀(k x:Nat),dp[k]? = some x->x<=24\/dp[n]? = some x
def SI.zero (ss:List PS):SI ss 0 (List.replicate ss.length 0) (List.replicate ss.length 0):=
 ⟨by simp,by simp,λk hk=>by simp[PP,hk],λi s h=>by omega,λi s t h=>by omega,(λk h1 h2=>by omega),(λi s h=>by omega),(λk x hx=>by rw[VF] at hx;split at hx<;>cases hx;omega)⟩
def SI.start {ss:List PS} {n:Nat} {cn dp:List Nat} (h:SI ss n cn dp) {s:PS} (hs:ss[n]? = some s) (hf:vB s) (hc:n=0\/cn[n]? = some 1) {x:Nat} (hx:dp[n]? = some x):SJ ss n s 0 cn (dp.set n (x+inc s)):=by
 have hn:n < ss.length:=(cd.1 hs).1;refine⟨h.lc,by simpa using h.ld,λk hk=>by rw[IH,oa];exact h.c k hk,?_,h.e,by simp,?_,⟨x+inc s,by rw[vp (by rw[h.ld];exact hn)],by simp⟩,?_,?_⟩;rotate_left 3
 ·intro k y hy;by_cases hk:k=n
  ·subst hk;exact .inr hy
  ·rw[qR (by omega)] at hy;exact .inl (h.b k y hy)
 ·intro i s1 hi h1;by_cases h2:i < n
  ·exact h.f i s1 h2 h1
  ·rw[show i=n by omega,hs] at h1;cases h1;exact hf
 ·intro k h1 h2;by_cases h3:k < n
  ·exact h.u k h1 h3
  ·have hk:k=n:=by omega
   subst hk;rcases hc with hc | hc
   ·omega
   ·have:=h.c k hn;rw[hc] at this;exact(ue this).symm
 ·intro i s1 hi h1;obtain⟨y,e1,e2,e3⟩:=h.d i s1 hi h1;refine⟨y,by rw[qR (by omega)];exact e1,e2,λk hk re s' oD=>?_⟩;rw[IH,oa] at re;have g:=e3 k hk re s' oD;by_cases hkn:k=n
  ·subst hkn;rw[hs] at oD;cases oD;rw[aI (by omega),hx] at g;cases g;rw[vp (by rw[h.ld];exact hn),aP (cp _)]
  ·rw[qR (by omega),g];by_cases h4:k < n
   ·rw[aP h4,aP (by omega)]
   ·rw[aI h4,aI (by omega)]
def SJ.ajh {ss:List PS} {n:Nat} {s:PS} {j:Nat} {cn dp:List Nat} (h:SJ ss n s j cn dp) {k:Nat} (hj:(bq s)[j]? = some (k:Int)) (h1:n < k) (h2:k < ss.length) {c x:Nat} (hc:cn[k]? = some c) (hx:dp[n]? = some x):SJ ss n s (j+1) (cn.set k (c+1)) (dp.set k x):=by
 have ht:(bq s).take (j+1)=(bq s).take j++[(k:Int)]:=by rw[sq,hj];rfl
 have dP:∀k':Nat,(PP ss n++(bq s).take (j+1)).count (k':Int)=(PP ss n++(bq s).take j).count (k':Int)+(if k'=k then 1 else 0):=by
  intro k';rw[ht,<-fI,VZ];congr 1;by_cases hk:k'=k
  ·subst hk;simp
  ·rw[aI hk];exact Oc.2 (by simp;omega)
 refine⟨by simpa using h.lc,by simpa using h.ld,?_,h.f,h.e,?_,h.u,?_,?_,?_⟩;rotate_left 4
 ·intro k' y hy;rw[qR (by omega)];by_cases hk:k'=k
  ·subst hk;rw[vp (by rw[h.ld];exact h2)] at hy;cases hy;exact .inr hx
  ·rw[qR (by omega)] at hy;exact h.b k' y hy
 ·intro k' iH;rw[dP];by_cases hk:k'=k
  ·subst hk;rw[vp (by rw[h.lc];exact h2),aP rfl];have:=h.c k' iH;rw[hc] at this;rw[ue this]
  ·rw[qR (by omega),aI hk];exact h.c k' iH
 ·intro t h3;rw[ht,dk] at h3;rcases h3 with h3 | h3
  ·exact h.e' t h3
  ·simp at h3;exact⟨k,h3,h1,h2⟩
 ·obtain⟨y,e1,e2⟩:=h.d';rw[hx] at e1;cases e1;refine⟨x,by rw[qR (by omega)];exact hx,λk' iH=>?_⟩;by_cases hk:k'=k
  ·subst hk;rw[vp (by rw[h.ld];exact h2)]
  ·rw[qR (by omega)];refine e2 k' ?_;rw[ht,dk] at iH;rcases iH with iH | iH
   ·exact iH
   ·simp at iH;omega
 ·intro i s1 hi ka;obtain⟨y,e1,e2,e3⟩:=h.d i s1 hi ka;refine⟨y,by rw[qR (by omega)];exact e1,e2,λk' iH re s' oD=>?_⟩;rw[dP] at re;by_cases hk:k'=k
  ·subst hk;have:1<=(PP ss n++(bq s).take j).count (k':Int):=List.count_pos_iff.2 (EO _ (af8 hi ka iH));rw[aP rfl] at re;omega
  ·rw[qR (by omega)];rw[aI hk] at re;exact e3 k' iH (by omega) s' oD
def SJ.fin {ss:List PS} {n:Nat} {s:PS} {j:Nat} {cn dp:List Nat} (h:SJ ss n s j cn dp) (hs:ss[n]? = some s) (hj:(bq s).length<=j) {x:Nat} (hx:dp[n]? = some x) (cG:x<=24):SI ss (n+1) cn dp:=by
 have ht:(bq s).take j=bq s:=zn hj;have hp:=Wx hs;have ml:=h.c;have dh:=h.e';have dD:=h.d';have hd:=h.d;rw[ht] at ml dh dD hd;rw[<-hp] at ml hd;refine⟨h.lc,h.ld,ml,λi s1 hi=>h.f i s1 (by omega),?_,?_,?_,λk y hy=>?_⟩;rotate_left 3
 ·rcases h.b k y hy with g | g
  ·exact g
  ·rw[hx] at g;cases g;exact cG
 ·intro i s1 t hi h1 h2;by_cases h3:i < n
  ·exact h.e i s1 t h3 h1 h2
  ·rw[show i=n by omega] at h1 ⊢;rw[hs] at h1;cases h1;exact dh t h2
 ·intro k h1 h2;rw[hp,VZ,h.u k h1 (by omega)]
  have : (bq s).count (k : Int) = 0 := Oc.2 (λhm => by
    obtain⟨k', e1, e2, _⟩ := dh _ hm
    omega)
  omega
 ·intro i s1 hi h1;by_cases h3:i < n
  ·obtain⟨y,e1,e2,e3⟩:=hd i s1 h3 h1;refine⟨y,e1,e2,λk hk re s' oD=>?_⟩;rw[e3 k hk re s' oD];by_cases h4:k<=n
   ·rw[aP h4,aP (by omega)]
   ·rw[aI h4,aI (by omega)]
  ·rw[show i=n by omega] at h1 ⊢;rw[hs] at h1;cases h1;obtain⟨y,e1,e2⟩:=dD;rw[hx] at e1;cases e1;refine⟨x,hx,cG,λk hk re s' oD=>?_⟩;obtain⟨k',g1,g2,_⟩:=dh _ hk;rw[e2 k hk,aI (by omega)]
structure SF (ss:List PS):Prop where
 f:∀s∈ss,vB s
 e:∀i s t,ss[i]? = some s->t∈bq s->∃k:Nat,t=(k:Int)/\i < k/\k < ss.length
 u:∀k:Nat,1<=k->k < ss.length->(ss.flatMap bq).count (k:Int)=1
 d:∃D:Nat->Nat,∀i s,ss[i]? = some s->D i<=24/\∀k:Nat,(k:Int)∈bq s->∀s',ss[k]? = some s'->D k=D i+inc s'
def SI.all {ss:List PS} {cn dp:List Nat} (h:SI ss ss.length cn dp):SF ss:=by
 have hp:PP ss ss.length=ss.flatMap bq:=by simp[PP]
 refine⟨?_,?_,?_,⟨λi=>dp.getD i 0,?_⟩⟩
 ·intro s hs;obtain⟨i,hi,rfl⟩:=ER hs;exact h.f i _ hi (gE hi)
 ·intro i s t h1 h2;exact h.e i s t (cd.1 h1).1 h1 h2
 ·intro k h1 h2;rw[<-hp];exact h.u k h1 h2
 ·intro i s h1;have hi:=(cd.1 h1).1;obtain⟨x,e1,e2,e3⟩:=h.d i s hi h1;have g1:dp.getD i 0=x:=by simp[List.getD,e1]
  refine⟨by show dp.getD i 0<=24;rw[g1];exact e2,λk hk s' oD=>?_⟩;obtain⟨k',q1,q2,q3⟩:=h.e i s _ hi h1 hk;have hkk:k=k':=by omega
  have re:=h.u k (by omega) (by omega);have:=e3 k hk (by omega) s' oD;rw[aP (by omega)] at this;show dp.getD k 0=dp.getD i 0+inc s';rw[g1];simp[List.getD,this]
end
section
open Go Go.ax QQ
def xh (t:TM):TR:=⟨t.kd,t.nm,t.n,t.tx,t.l,t.r⟩
def Pr (tm:List TM):tm.map bH=(tm.map xh).map cR:=by rw[IJ];rfl
def tP (p:PC):aq fG:=(p.nm,(p.pb,p.pm.map eG),(p.tb,p.tm.map bH),(p.sb,p.ss.map dA),())
def Ur {l:List Nat} {i:Nat} (h:i < l.length) {v:Nat}:bS (l.map aV) (0+i) 0 (.int .i64 (v:Int))=(l.set i v).map aV:=by
 have:(l.map aV).getD (0+i) []=aV l[i]:=by simp[List.getD,h]
 unfold bS;rw[this,cQ,vx];rfl
section
variable {m:Nat} {Q:V->List (List C)->Prop}
def afk (hm:1<=m) {a b c:Int} {K:dF.T->OR} (h:Wp (K ((a,b,c,()),())) Q):Wp (c46 (T m) a b c K) Q:=by
 obtain⟨m,rfl⟩:=bT hm;exact bI aiU (aB (aH rfl h))
def Vp (hm:100<=m) {b:Bool} {tm:List TM} {z:Int} {K:bu.T->OR} (h:Wp (K (pP (tm.map xh) z,())) Q):Wp (BY (T m) b (tm.map bH) z K) Q:=by
 rw[Pr];exact jk (x:=(pP (tm.map xh) z,())) (Hq z m hm) rfl h
def abQ {l:List TR} {z:Int} (h:pP l z=true):∃i:Nat,z=(i:Int)/\i < l.length:=by
 simp only[pP,cI,gX] at h;exact⟨z.toNat,by omega,by omega⟩
def pf (K:dF.T->OR) (Q:V->List (List C)->Prop):Prop:=∀e a b,e≠0->Wp (K ((e,a,b,()),())) Q
variable {K:dF.T->OR}
def mg (hF:pf K Q) (hm:1<=m) {e a b:Int} (he:e≠0):Wp (c46 (T m) e a b λv=>(some ((.agg [(iC v.1.1),(iC v.1.2.1),(iC v.1.2.2.1)]),[]))) (J dF K Q):=
 afk hm (aB (aH rfl (hF e a b he)))
def aek (q:Nat) (hq:230<=q) (hF:pf K Q) {p:PC} {cn dp:RR} {a0 a8 a9 aQ:Int} {a1:aq eQ} {a6 cw:Bool} {a7 a12:RR} {fL:Int} {r c1 c0:Nat} (hr:r<=100000) {tb:Bool} {tl:List Nat} (s8:∀x∈tl,x < p.tm.length) (h3:tl.length<=3)
  (hZ:∀us:List Bool,us.length=p.tm.length->Wp (Hi (T q) q c0 c1 a0 a1 (tP p) cn dp (us.map gu) a6 a7 a8 a9 aQ cw a12 fL ((r+1:Nat):Int)) (J dF K Q)) :
  ∀(c i:Nat) (us:List Bool),tl.length - i < c->i<=tl.length->us.length=p.tm.length->Wp (L7 (T q) q c0 c1 c a0 a1 (tP p) cn dp (us.map gu) a6 a7 a8 a9 aQ cw a12 fL (r:Int) tb (tl.map aV) (ae (tl.map aV).length) (i:Int)) (J dF K Q)
 | 0,i,us,hc,_,_=>by omega
 | c+1,i,us,hc,hi,mw=>by
  refine aG aoC (aj (λg1=>?_) (λg1=>?_))
  ·have af:i < tl.length:=bW g1;have hx:=s8 _ (bU af);have Kt:tl[i] < us.length:=by omega
   refine aS gU rfl (gE af) ?_;refine nX Ee rfl (gE Kt) (aj (λ_=>mg hF (by omega) (by decide)) (λ_=>?_));refine iA rfl (az (aM (by simpa using Kt)) (eg (b:=gu us[tl[i]]) (by rw[cQ,bQ,gE Kt];rfl) (az rfl (gi (v:=(us[tl[i]],())) rfl ?_))));rw[Nt Kt,wI i];exact aek q hq hF hr s8 h3 hZ c (i+1) (us.set tl[i] true) (by omega) (by omega) (by simpa using mw)
  ·rw[wI r];exact hZ us mw
def aej (q:Nat) (hq:21000<=q) (hF:pf K Q) {p:PC} (hT:iW p.tm) {cn dp:RR} {a0 a8 a9 aQ:Int} {a1:aq eQ} {a6 cw:Bool} {a7:RR} {c0:Nat} {rl:List Int} (hl:rl.length<=20000)
  (hZ:∀us:List Bool,us.length=p.tm.length->Wp (AO (T q) q c0 a0 a1 (tP p) cn dp (us.map gu) a6 a7 a8 (ak (a9+1))) (J dF K Q)) :
  ∀(c r:Nat) (us:List Bool),rl.length - r < c->r<=rl.length->us.length=p.tm.length->Wp (Hi (T q) q c0 c a0 a1 (tP p) cn dp (us.map gu) a6 a7 a8 a9 aQ cw (rl.map bN) (ae (rl.map bN).length) (r:Int)) (J dF K Q)
 | 0,r,us,hc,_,_=>by omega
 | c+1,r,us,hc,hr,mw=>by
  refine aG aoB (aj (λg1=>?_) (λg1=>hZ us mw));have af:r < rl.length:=bW g1;refine aS qF rfl (gE af) ?_;refine Vp (m:=q) (by omega) (aj (λ_=>mg hF (by omega) (by decide)) (λg2=>?_));have qu:pP (p.tm.map xh) rl[r]=true:=by simpa using g2
  obtain⟨i,hi,jn⟩:=abQ qu;rw[cX] at jn;dsimp only;rw[hi];refine atf (m:=q) (by omega) hT jn λb tl s8 h3=>?_
  exact aek q (by omega) hF (by omega) s8 h3 (λIp Gx=>aej q hq hF hT hl hZ c (r+1) Ip (by omega) (by omega) Gx) q 0 us (by omega) (by omega) mw
def ael (q:Nat) (hq:21000<=q) (hF:pf K Q) {p:PC} (hp:jN p) (mh:p.ss.length<=80) {n:Nat} {s:PS} (hs:p.ss[n]? = some s) {a0 a8:Int} {a1:aq eQ} {a6:Bool} {a7:RR} {c0:Nat} {nb:Bool}
  (hZ:∀cn dp (us:List Bool),SI p.ss (n+1) cn dp->us.length=p.tm.length->Wp (AO (T q) q c0 a0 a1 (tP p) (cn.map aV) (dp.map aV) (us.map gu) a6 a7 a8 ((n+1:Nat):Int)) (J dF K Q)) (us:List Bool) (mw:us.length=p.tm.length) :
  ∀(c j:Nat) (cn dp:List Nat),(bq s).length - j < c->j<=(bq s).length->SJ p.ss n s j cn dp->Wp (L8 (T q) q c0 c a0 a1 (tP p) (cn.map aV) (dp.map aV) (us.map gu) a6 a7 a8 (n:Int) (tS s) (n:Int) nb ((bq s).map bN) (ae ((bq s).map bN).length) (j:Int)) (J dF K Q)
 | 0,j,cn,dp,hc,_,_=>by omega
 | c+1,j,cn,dp,hc,hj,h=>by
  have hn:n < p.ss.length:=(cd.1 hs).1;have oB:=hp.s2 s (ff hs);have oA:(bq s).length<=100:=by
   unfold bq;split
   ·simp
   ·simpa using oB.2.2.2
  have J2:n < dp.length:=by rw[h.ld];exact hn
  refine aG aoD (aj (λg1=>?_) (λg1=>?_))
  ·have af:j < (bq s).length:=bW g1;have hg:(bq s)[j]? = some (bq s)[j]:=gE af;refine aS qF rfl hg (aj (λ_=>mg hF (by omega) (by decide)) (λg2=>aj (λ_=>mg hF (by omega) (by decide)) (λg3=>?_)));have k1:¬ (bq s)[j]<=(n:Int):=lj g2;have k2:¬ (bq s)[j]>=ae (p.ss.map dA).length:=lj g3;rw[cm,cX] at k2;obtain⟨k,hk⟩:∃k:Nat,(bq s)[j]=(k:Int):=⟨(bq s)[j].toNat,by omega⟩
   have uH:n < k:=by omega
   have kP:k < p.ss.length:=by omega
   have yh:k < cn.length:=by rw[h.lc];exact kP
   have oy:k < dp.length:=by rw[h.ld];exact kP
   obtain⟨r,hr⟩:=bl 1 q;have e4:L9 (T q) q c0 c q=L9 (T q) q c0 c (r+1):=by rw[<-hr]
   have ZN:=h.c k kP;have Q0:cn[k]<=10000:=by
    have q1:cn[k]=(PP p.ss n++(bq s).take j).count (k:Int):=by
     rw[gE yh] at ZN;exact ue ZN
    rw[q1];refine iD IL ?_;rw[fH];have q2:(PP p.ss n).length<=80 * 100:=by
     unfold PP;rw[List.length_flatMap];have:∀(l:List PS),(∀x∈l,x∈p.ss)->((l.map λa=>(bq a).length).sum)<=l.length * 100:=by
      intro l;induction l with
      | nil=>intro _;simp
      | cons a t ih=>
       intro hm;have:=ih (λx hx=>hm x (jC _ hx));have ha:=hp.s2 a (hm a jD);have Ah:(bq a).length<=100:=by
        unfold bq;split
        ·simp
        ·simpa using ha.2.2.2
       simp only[e9,zt,jl];omega
     have:=this (p.ss.take n) (λx hx=>EN hx);have:(p.ss.take n).length<=80:=by simp;omega
     omega
    have:((bq s).take j).length<=100:=by simp;omega
    omega
   dsimp only;rw[hk,e4];refine aG aoE ?_;refine nX gU rfl (gE yh) ?_;refine iA rfl (az (aM (by simpa using yh)) (eg (b:=aV cn[k]) (by rw[cQ,bQ,gE yh];rfl) (az rfl (gi (v:=((cn[k]:Int),())) rfl ?_))));refine nX gU rfl (gE J2) ?_;refine iA rfl (az (aM (by simpa using oy)) (eg (b:=aV dp[k]) (by rw[cQ,bQ,gE oy];rfl) (az rfl (gi (v:=((dp[k]:Int),())) rfl ?_))));dsimp only;rw[show ak ((cn[k]:Int)+1)=((cn[k]+1:Nat):Int) from iP,Ur yh,Ur oy,wI j];exact ael q hq hF hp mh hs hZ us mw c (j+1) _ _ (by omega) (by omega) (h.ajh (by rw[hg,hk]) uH kP (gE yh) (gE J2))
  ·have fB:(bq s).length<=j:=by
    have g2:¬ (j:Int) < ae ((bq s).map bN).length:=lj g1;rw[cm,cX] at g2;omega
   refine nX gU rfl (gE J2) (aj (λ_=>mg hF (by omega) (by decide)) (λg2=>?_));have cG:dp[n]<=24:=by
    have:¬ ((dp[n]:Nat):Int) > 24:=lj g2;omega
   have hSI:=h.fin hs fB (gE J2) cG;refine afC (m:=q) (by omega) oB λtb rl iu=>?_
   refine aej q hq hF hp.t2 iu (λIp Gx=>?_) q 0 us (by omega) (by omega) mw;rw[wI n];exact hZ cn dp Ip hSI Gx
def aei (q:Nat) (hq:21000<=q) (hF:pf K Q) {p:PC} (hp:jN p) (mh:p.ss.length<=80) {a0:Int} {a1:aq eQ} {a6:Bool} (h:SF p.ss->Wp (K ((0,0,0,()),())) Q) :
  ∀(c n:Nat) (cn dp:List Nat) (us:List Bool),p.ss.length - n < c->n<=p.ss.length->SI p.ss n cn dp->us.length=p.tm.length->
   Wp (AO (T q) q c a0 a1 (tP p) (cn.map aV) (dp.map aV) (us.map gu) a6 (p.ss.map dA) (ae (p.ss.map dA).length) (n:Int)) (J dF K Q)
 | 0,n,cn,dp,us,hc,_,_,_=>by omega
 | c+1,n,cn,dp,us,hc,hn,hI,mw=>by
  refine aG aoA (aj (λg1=>?_) (λg1=>?_))
  ·have af:n < p.ss.length:=bW g1;have hs:p.ss[n]? = some p.ss[n]:=gE af;generalize p.ss[n]=s at hs;have oB:=hp.s2 s (ff hs);have aU:n < cn.length:=by rw[hI.lc];exact af
   have qn:n < dp.length:=by rw[hI.ld];exact af
   obtain⟨r,hr⟩:=bl 1 q;have e5:yz (T q) q c q=yz (T q) q c (r+1):=by rw[<-hr]
   have e6:DH (T q) q c q=DH (T q) q c (r+1):=by rw[<-hr]
   refine aS (enc:=dA) (f:=tS) (λa=>⟨by simp[dA],rfl⟩) rfl hs ?_;refine asV (m:=q) (by omega) oB λb hb=>aj (λ_=>mg hF (by omega) (by decide)) (λg2=>?_)
   have Rh:=hb (by simpa using g2);have five:∀Jv,SJ p.ss n s 0 cn Jv->Wp (yz (T q) q c q a0 a1 (tP p) (cn.map aV) (Jv.map aV) (us.map gu) a6 (p.ss.map dA) (ae (p.ss.map dA).length) (n:Int) (tS s) (n:Int)) (J dF K Q):=by
    intro Jv hJ;rw[e5];refine aG aoF ?_;refine Vk (m:=q) (by omega) oB λnb=>?_
    have oA:(bq s).length<=100:=by
     unfold bq;split
     ·simp
     ·simpa using oB.2.2.2
    exact ael q hq hF hp mh hs (λcn' ahd Ip hI' Gx=>aei q hq hF hp mh h c (n+1) cn' ahd Ip (by omega) (by omega) hI' Gx) us mw q 0 cn Jv (by omega) (by omega) hJ
   have cG:dp[n]<=100000->∀(dM:n=0\/cn[n]? = some 1),Wp (DH (T q) q c q a0 a1 (tP p) (cn.map aV) (dp.map aV) (us.map gu) a6 (p.ss.map dA) (ae (p.ss.map dA).length) (n:Int) (tS s) (n:Int)) (J dF K Q):=by
    intro QS dM;have bF:=hI.start hs Rh dM (gE qn);rw[e6];have up:s.kd=3\/s.kd=5->Wp (yz (T q) q c q a0 a1 (tP p) (cn.map aV) (bS (dp.map aV) (0+n) 0 (.int .i64 (ak ((dp[n]:Int)+1)))) (us.map gu) a6 (p.ss.map dA) (ae (p.ss.map dA).length) (n:Int) (tS s) (n:Int)) (J dF K Q):=by
     intro hk;rw[show ak ((dp[n]:Int)+1)=((dp[n]+1:Nat):Int) from iP,Ur qn];have:inc s=1:=by unfold inc;rw[aP hk]
     rw[this] at bF;exact five _ bF
    refine aG aoG (aj (λg3=>?_) (λg3=>aj (λg4=>?_) (λg4=>?_)))
    ·refine nX gU rfl (gE qn) ?_;refine iA rfl (az (aM (by simpa using qn)) (eg (b:=aV dp[n]) (by rw[cQ,bQ,gE qn];rfl) (az rfl (gi (v:=((dp[n]:Int),())) rfl ?_))));exact up (.inl (by have:(s.kd==3)=true:=g3;simpa using this))
    ·refine nX gU rfl (gE qn) ?_;refine iA rfl (az (aM (by simpa using qn)) (eg (b:=aV dp[n]) (by rw[cQ,bQ,gE qn];rfl) (az rfl (gi (v:=((dp[n]:Int),())) rfl ?_))));exact up (.inr (by have:(s.kd==5)=true:=g4;simpa using this))
    ·have h3:s.kd≠3:=by have:(s.kd==3)=false:=g3;simpa using this
     have h5:s.kd≠5:=by have:(s.kd==5)=false:=g4;simpa using this
     have:inc s=0:=by unfold inc;rw[aI (by omega)]
     rw[this,mN,af2] at bF;exact five _ bF
   have QS:=cG (by have:=hI.b n dp[n] (gE qn);omega);refine aj (λg3=>?_) (λg3=>QS (.inl ?_))
   ·refine nX gU rfl (gE aU) (aj (λ_=>mg hF (by omega) (by decide)) (λg4=>QS (.inr ?_)));have:(((cn[n]:Nat):Int) != 1)=false:=g4;have:=VN.1 this;rw[gE aU,show cn[n]=1 by omega]
   ·have:¬ (n:Int) > 0:=lj g3;omega
  ·have fB:n=p.ss.length:=by
    have g2:¬ (n:Int) < ae (p.ss.map dA).length:=lj g1;rw[cm,cX] at g2;omega
   rw[fB] at hI;exact aB (aH rfl (h hI.all))
def as8 (hm:21010<=m) (hF:pf K Q) {b1 b2 b3:Bool} {r1 r2:RR} {aF:List PC} {i:Nat} {p:PC} (hi:aF[i]? = some p) (hp:jN p) (mh:p.ss.length<=80) (atz:p.tm.length<=160) (h:SF p.ss->Wp (K ((0,0,0,()),())) Q) :
  Wp (XE (T m) b1 r1 b2 r2 b3 (aF.map fA) (i:Int) K) Q:=by
 obtain⟨m,rfl⟩:=bT hm;refine bI ai1 ?_;refine aS (enc:=fA) (f:=tP) (λa=>⟨by simp[fA],rfl⟩) rfl hi ?_;have e1:∀n:Nat,List.replicate n [D.int .i64 0]=(List.replicate n 0).map aV:=by intro n;simp[aV]
 have e2:∀n:Nat,List.replicate n [D.bool false]=(List.replicate n false).map gu:=by intro n;simp[gu]
 have g:∀(n k:Nat),n<=1000->k<=8->(decide (n<=n)&&decide (n * k<=140737488355328)&&decide (n<=9223372036854775807)&&true&&(!n==0||n==0))=true:=by
  intro n k hn hk;have:n * k<=1000 * 8:=V6 hn hk;simp;omega
 have l1:(p.ss.map dA).length=p.ss.length:=cX _;have l2:(p.tm.map bH).length=p.tm.length:=cX _;have gs:=g p.ss.length 8 (by omega) (by omega);have gt:=g p.tm.length 2 (by omega) (by omega);rw[<-l1] at gs;rw[<-l2] at gt;refine az gs (az gs (az gt ?_));show Wp (AO (T m) m m (i:Int) (0,0,0,()) (tP p) (List.replicate (p.ss.map dA).length [D.int .i64 0]) (List.replicate (p.ss.map dA).length [D.int .i64 0]) (List.replicate (p.tm.map bH).length [D.bool false]) p.sb (p.ss.map dA) (ae (p.ss.map dA).length) 0) _;rw[e1,e2,l1,l2];have:=aei m (by omega) hF hp mh h (a0:=(i:Int)) (a1:=(0,0,0,())) (a6:=p.sb) m 0 _ _ (List.replicate p.tm.length false) (by omega) (by omega) (SI.zero p.ss) (by simp);rw[l1] at this;exact this
end
end
section
open Go Go.ax QQ
section
variable {m:Nat} {Q:V->List (List C)->Prop}
def aee (q:Nat) (aF:List PC) (hl:aF.length<=100) (s:BB) (x y:Tag×RR) {b:Bool} {K:iL.T->OR} (h1:Wp (K (-1,())) Q) (h2:∀i:Nat,i < aF.length->Wp (K ((i:Int),())) Q):∀(c i:Nat),aF.length - i < c->i<=aF.length->
  Wp (LJ (T q) q c s (x,y,(.im b,aF.map fA),()) (ae (aF.map fA).length) (i:Int)) (J iL K Q)
 | 0,i,hc,_=>by omega
 | c+1,i,hc,hi=>by
  refine aG aob (aj (λg1=>eL ?_) (λg1=>aB (aH rfl h1)));have af:i < aF.length:=bW g1;refine aS (enc:=fA) (f:=λa=>(a.nm,())) (λa=>⟨by simp[fA],rfl⟩) rfl (gE af) (aj (λg2=>aB (aH rfl (h2 i af))) (λg2=>?_));rw[wI i];exact aee q aF hl s x y h1 h2 c (i+1) (by omega) (by omega)
def N2 (hm:110<=m) {b1 b2 b3:Bool} {r1 r2:RR} {aF:List PC} (hl:aF.length<=100) {s:BB} {K:iL.T->OR} (h1:Wp (K (-1,())) Q) (h2:∀i:Nat,i < aF.length->Wp (K ((i:Int),())) Q):Wp (Fe (T m) b1 r1 b2 r2 b3 (aF.map fA) s K) Q:=by
 obtain⟨m,rfl⟩:=bT hm;exact bI aiO (aee m aF hl s _ _ h1 h2 m 0 (by omega) (by omega))
def afg (hm:600<=m) {k:Int} {x:BB} (h:(k,x)∈jb) {K:bu.T->OR} (hK:∀b,Wp (K (b,())) Q):Wp (Po (T m) k x K) Q:=by
 obtain⟨m,rfl⟩:=bT (show 1<=m by omega);have hx:=XP h;refine bI aiT (jk (NO (m:=m) (M:=400) (b:=false) (nm:=[]) (l:=[⟨1,[120],false,[⟨[120],k,x,0⟩]⟩]) (by omega) λt ht=>?_) rfl (aB (aH rfl (hK _))));rw[pd.1 ht];exact⟨by simp,by simp,λa ha=>by rw[pd.1 ha];exact⟨by show x.length+200<=400;omega,by show x.length<=_;omega⟩⟩
structure HD (p:PC):Prop where
 hn:cq p.nm=true
 hp:p.pm.length<=6
 hs:p.ss.length<=80
 ht:p.tm.length<=160
def aem (q:Nat) (hq:700<=q) {aF:List PC} (di:aF.length<=100) {p:PC} (hp:jN p) {b1 b2 b3:Bool} {r1 r2:RR} {a0:Nat} {a2:aq eQ} {K:dF.T->OR} (hF:pf K Q) {oq:Bool} (hg:oq=true->HD p) (h:HD p->Wp (K ((0,0,0,()),())) Q):∀(c i:Nat) (g:Bool) (o:List BB),p.pm.length - i < c->i<=p.pm.length->o.length=i->(g=true->oq=true)->
  Wp (uS (T q) q c (a0:Int) ((b1,r1),(b2,r2),(b3,aF.map fA),()) a2 (tP p) g (o.map aE) p.pb (p.pm.map eG) (ae (p.pm.map eG).length) (i:Int)) (J dF K Q)
 | 0,i,g,o,hc,_,_,_=>by omega
 | c+1,i,g,o,hc,hi,ho,kC=>by
  have h2:=hp.p1;refine aG aok (aj (λg1=>?_) (λg1=>aj (λ_=>mg hF (by omega) (by decide)) (λg2=>?_)))
  ·have af:i < p.pm.length:=bW g1;have hx:=hp.p2 _ (bU af);have en:∀g':Bool,(g'=true->oq=true)->Wp (gd ((o.map aE).length==(o.map aE).length&&true&&decide (((o.map aE).length+1) * 16<=140737488355328)) (uS (T q) q c (a0:Int) ((b1,r1),(b2,r2),(b3,aF.map fA),()) a2 (tP p) g' (o.map aE++whole ([[D.str []]].set 0 [D.str p.pm[i].1])) p.pb (p.pm.map eG) (ae (p.pm.map eG).length) (ak ((i:Int)+1)))) (J dF K Q):=by
    intro g' vY;refine az (gW (by simp;omega) (by omega)) ?_;rw[wI i,dZ];have:=aem q hq di hp (b1:=b1) (b2:=b2) (b3:=b3) (r1:=r1) (r2:=r2) (a0:=a0) (a2:=a2) hF hg h c (i+1) g' (o++[p.pm[i].1]) (by omega) (by omega) (by simp;omega) vY;rw[eF] at this;exact this
   refine aS HS rfl (gE af) (aj (λg3=>?_) (λg3=>?_))
   ·refine ig (m:=q) (by omega) (aj (λg4=>afg (m:=q) (by omega) hx.1 λb=>?_) (λg4=>?_))
    ·exact en b (λ_=>kC g3)
    ·exact en false (λh0=>by cases h0)
   ·exact en false (λh0=>by cases h0)
  ·have sZ:oq=true:=kC (by simpa using g2);have ok:=hg sZ;have fin:Wp (some ((.agg [(iC 0),(iC 0),(iC 0)]),[])) (J dF K Q):=aB (aH rfl (h ok));have gj:Wp (gd (decide (0+(o.map aE).length<=(o.map aE).length)) (vK (T q) false (aK (whole (o.map aE))) λjU=>(bif (!jU.1) then(c46 (T q) 1501 (a0:Int) (-1) λaZ=>(some ((.agg [(iC aZ.1.1),(iC aZ.1.2.1),(iC aZ.1.2.2.1)]),[]))) else(some ((.agg [(iC 0),(iC 0),(iC 0)]),[]))))) (J dF K Q):=by
    refine az (by simp) ?_;rw[dZ,pR];exact N0 (m:=q) (N:=10) (by omega) (by omega) (by omega) λb=>aj (λ_=>mg hF (by omega) (by decide)) (λ_=>fin)
   exact N2 (m:=q) (by omega) di (aj (λ_=>mg hF (by omega) (by decide)) (λ_=>gj)) (λj hj=>aj (λ_=>mg hF (by omega) (by decide)) (λ_=>gj))
def arH (q:Nat) (hq:700<=q) {aF:List PC} (di:aF.length<=100) {p:PC} (hp:jN p) {b1 b2 b3:Bool} {r1 r2:RR} {a0:Nat} {a2:aq eQ} {K:dF.T->OR} (hF:pf K Q) {oq:Bool} (hg:oq=true->HD p) (h:HD p->Wp (K ((0,0,0,()),())) Q) :
  Wp (Hf (T q) q q (a0:Int) ((b1,r1),(b2,r2),(b3,aF.map fA),()) a2 (tP p) oq true [] p.pb (p.pm.map eG) (ae (p.pm.map eG).length) 0) (J dF K Q):=by
 have h2:=hp.p1;obtain⟨r,hr⟩:=bl 1 q;have e0:Hf (T q) q q=Hf (T q) q (r+1):=by rw[<-hr]
 rw[e0];refine aG aoj (aj (λg1=>?_) (λg1=>aj (λ_=>mg hF (by omega) (by decide)) (λg2=>?_)))
 ·have af:0 < p.pm.length:=bW g1;have hx:=hp.p2 _ (bU af);have en:∀g':Bool,(g'=true->oq=true)->Wp (gd (true&&true&&true) (uS (T q) q r (a0:Int) ((b1,r1),(b2,r2),(b3,aF.map fA),()) a2 (tP p) g' [[.str p.pm[0].1]] p.pb (p.pm.map eG) (ae (p.pm.map eG).length) (ak (1)))) (J dF K Q):=by
   intro g' vY;refine az rfl ?_;exact aem q hq di hp hF hg h r 1 g' [p.pm[0].1] (by omega) (by omega) rfl vY
  refine aS HS (i:=0) rfl (gE af) (aj (λg3=>?_) (λg3=>en false (λh0=>by cases h0)));exact ig (m:=q) (by omega) (aj (λg4=>afg (m:=q) (by omega) hx.1 (λb=>en b (λ_=>g3))) (λg4=>en false (λh0=>by cases h0)))
 ·have ok:=hg (by simpa using g2);have fin:Wp (some ((.agg [(iC 0),(iC 0),(iC 0)]),[])) (J dF K Q):=aB (aH rfl (h ok));have gj:Wp (vK (T q) true [] λjU=>(bif (!jU.1) then(c46 (T q) 1501 (a0:Int) (-1) λaZ=>(some ((.agg [(iC aZ.1.1),(iC aZ.1.2.1),(iC aZ.1.2.2.1)]),[]))) else(some ((.agg [(iC 0),(iC 0),(iC 0)]),[])))) (J dF K Q):=
   N0 (m:=q) (l:=[]) (N:=10) (by omega) (by simp) (by omega) λb=>aj (λ_=>mg hF (by omega) (by decide)) (λ_=>fin)
  exact N2 (m:=q) (by omega) di (aj (λ_=>mg hF (by omega) (by decide)) (λ_=>gj)) (λj hj=>aj (λ_=>mg hF (by omega) (by decide)) (λ_=>gj))
def as9 (hm:710<=m) {b1 b2 b3:Bool} {r1 r2:RR} {aF:List PC} (di:aF.length<=100) {i:Nat} {p:PC} (hi:aF[i]? = some p) (hp:jN p) {K:dF.T->OR} (hF:pf K Q) (h:HD p->Wp (K ((0,0,0,()),())) Q):Wp (XD (T m) b1 r1 b2 r2 b3 (aF.map fA) (i:Int) K) Q:=by
 obtain⟨m,rfl⟩:=bT hm;obtain⟨r,hr⟩:=bl 1 m;have e1:wG (T m) m m=wG (T m) m (r+1):=by rw[<-hr]
 have go:∀oq,(oq=true->HD p)->Wp (wG (T m) m m (i:Int) ((b1,r1),(b2,r2),(b3,aF.map fA),()) (0,0,0,()) (tP p) oq) (J dF K Q):=by
  intro oq hg;rw[e1];exact aG aol (arH m (by omega) di hp hF hg h)
 have no:=go false (λh0=>by cases h0);refine bI aiW ?_;refine aS (enc:=fA) (f:=tP) (λa=>⟨by simp[fA],rfl⟩) rfl hi ?_;refine ig (m:=m) (by omega) (aj (λg1=>aj (λg2=>aj (λg3=>aj (λg4=>go _ λg5=>⟨g1,?_,?_,?_⟩) (λ_=>no)) (λ_=>no)) (λ_=>no)) (λ_=>no))
 ·have:ae (p.pm.map eG).length<=6:=sn g2;rw[cm,cX] at this;omega
 ·have:ae (p.ss.map dA).length<=80:=sn g4;rw[cm,cX] at this;omega
 ·have:ae (p.tm.map bH).length<=160:=sn g5;rw[cm,cX] at this;omega
end
end
section
open Go Go.ax QQ
def Cy {X Y:Type} {L:List X} {f:X->Y} {i:Nat} (g:decide ((i:Int) < ae (L.map f).length)=false):L.length<=i:=by
 have:=lj g;rw[cm,cX] at this;omega
def w1 {i:Nat} (h:i<=100000000):ak ((i:Int)+1)=((i+1:Nat):Int):=iP
def arN (m:Nat) (b:Bool):T (m+60) 204 [.one (lC (.im b) 1 [])] []=some (.ao [],[]):=by kernel_rfl
def arO (m:Nat) (b:Bool) (s:BB):T (m+60) 204 [.one (lC (.im b) 1 [[.str s]])] []=some (.ao [],[]):=by kernel_rfl
section
variable {m:Nat} {Q:V->List (List C)->Prop}
def Vu {L:List BB} {z:Int} {i:Nat} {a:BB} {K:aq [.str]->OR} (hz:z=(i:Int)) (ha:L[i]? = some a) (h:Wp (K (a,())) Q):Wp (iR [.str] 0 1 (L.map aE) z K) Q:=
 aS u7 hz ha h
abbrev cV (Cl:bX) (z:Int) (x1:aq tM) (x2:aq [.tg 6]) (x3:aq [.tg 1]) (K:En.T->OR):OR:=aA En (Cl 203 [(.one (iC z)),pE,(.one (.ptr (.e 1) 0 0)),(.one (.ptr (.e 2) 0 0))] [(bx tM x1),(bx [.tg 6] x2),(bx [.tg 1] x3)]) K
def VK (m:Nat) (z:Int) (b:Bool) (tm:List TM) (n:Nat):Prop:=∀(K:En.T->OR) (Q:V->List (List C)->Prop) (y:aq tM) (o:List BB),o.length+n<=10->(∀o':List BB,o'.length<=o.length+n->Wp (K ((),((),()),tB b tm,iX (o'.map aE),())) Q)->Wp (cV (T m) z y (tB b tm) (iX (o.map aE)) K) Q
def VK.mono {z:Int} {b:Bool} {tm:List TM} {n n':Nat} (h:VK m z b tm n) (hn:n<=n'):VK m z b tm n':=
 λK Q y o ho hk=>h K Q y o (by omega) λo' h'=>hk o' (by omega)
def asD {b:Bool} {tm:List TM}:VK (m+1) (-1) b tm 0:=λK Q y o ho hk=>
 bI Yw (cF rfl (aB (aH rfl (hk o (by omega)))))
def WV {o:List BB} {Z:Tag->OR} (hX:o=[]->Wp (Z (.im true)) Q) (hY:o≠[]->Wp (Z .own) Q):Wp (zZ (mH (o.map aE)).1 Z) Q:=by
 cases o with
 | nil=>exact eL (hX rfl)
 | cons a t=>exact ij (hY (by simp))
def afb {b:Bool} {tm:List TM} {t:TM} {i x y:Nat} (hi:tm[i]? = some t) (hl:VK m t.l b tm x) (hr:VK m t.r b tm y):VK (m+1) (i:Int) b tm (x+y+if t.kd=0 then 1 else 0):=by
 intro K Q yy o ho hk;have d:∀c,c < 6->∀(v:TM->Int),(∀a:TM,(bH a)[c]? = some (.int .i64 (v a)))->∀a:TM,c+1<=(bH a).length/\dI bO (List.take 1 (List.drop c (bH a)))=some (v a,()):=by
  intro c hc v hv a;refine⟨by simp[bH];omega,?_⟩;have:List.take 1 (List.drop c (bH a))=[.int .i64 (v a)]:=by
   have g:c < (bH a).length:=by simp[bH];omega
   rw[ku g];have:=hv a;rw[gE g] at this;simp[ue this]
  rw[this];rfl
 refine bI Yw (eW (bm (by omega)) (eL ?_));refine aS (enc:=bH) (f:=λt=>(t.l,())) (d 4 (by omega) _ λa=>rfl) rfl hi ?_;refine hl _ _ _ o (by omega) λo1 h1=>eL ?_
 refine aS (enc:=bH) (f:=λt=>(t.r,())) (d 5 (by omega) _ λa=>rfl) rfl hi ?_;refine hr _ _ _ o1 (by omega) λo2 h2=>eL ?_
 refine aS (enc:=bH) (f:=λt=>(t.kd,())) (d 0 (by omega) _ λa=>rfl) rfl hi (aj (λg=>?_) (λg=>aB (aH rfl (hk o2 (by omega)))));have nJ:t.kd=0:=by have:(t.kd==0)=true:=g;simpa using this
 rw[aP nJ] at hk;have fin:=hk (o2++[t.nm]) (by simp;omega);have dn:∀a:TM,1+1<=(bH a).length/\dI [.str] (List.take 1 (List.drop 1 (bH a)))=some (a.nm,()):=λa=>⟨by simp[bH],rfl⟩
 refine WV (o:=o2) (λhe=>?_) (λhe=>?_)
 ·subst he;exact aS (enc:=bH) (f:=λt=>(t.nm,())) dn rfl hi (az rfl (aB (by exact aH rfl fin)))
 ·refine aS (enc:=bH) (f:=λt=>(t.nm,())) dn rfl hi (az ?_ (aB ?_))
  ·have e:(iX (o2.map aE)).1.2.length=o2.length:=by cases o2<;>simp[iX,mH]
   rw[e];exact gW (by omega) (by omega)
  ·rw[dZ];have e:iX ((o2++[t.nm]).map aE)=((.own,o2.map aE++[aE t.nm]),()):=by
    rw[eF];cases o2 with
    | nil=>exact absurd rfl he
    | cons a t=>rfl
   rw[e] at fin;exact aH rfl fin
def Vd {b:Bool} {tm:List TM} {t:TM} {i:Nat} (hi:tm[i]? = some t) (h:yC t):VK (m+2) (i:Int) b tm (if t.kd=0 then 1 else 0):=by
 have n:=asD (m:=m) (b:=b) (tm:=tm);exact(afb (m:=m+1) (x:=0) (y:=0) hi (by rw[h.2.1];exact n) (by rw[h.2.2.1];exact n)).mono (by omega)
def asE {b:Bool} {tm:List TM} (hT:iW tm) {i:Nat} (hi:i < tm.length):VK (m+3) (i:Int) b tm 1:=by
 have hg:tm[i]? = some tm[i]:=gE hi;rcases hT i _ hg with h | ⟨_,hk,a,c,x,y,h1,h2,_,_,_,h6,h7,h8,h9,hv⟩
 ·exact(Vd (m:=m+1) hg h).mono (by split<;>omega)
 ·refine(afb (m:=m+2) (x:=if x.kd=0 then 1 else 0) (y:=if y.kd=0 then 1 else 0) hg (by rw[h1];exact Vd h6 h8) (by rw[h2];exact Vd h7 h9)).mono ?_;have:tm[i].kd≠0:=by omega
  rw[aI this];rcases hv with hv | hv<;>rw[aI hv]<;>split<;>omega
def afh (hm:2<=m) {b:Bool} {l:List BB} (hl:l.length<=1) {K:de.T->OR} (h:Wp (K ((b,l.map aE),())) Q):Wp (XA (T m) b (l.map aE) K) Q:=by
 obtain⟨m,rfl⟩:=bT hm;refine bI ai6 (cF (aM ?_) (aB (aH rfl h)));rw[cm,cX];omega
def afz (hm:60<=m) {b:Bool} {l:List BB} (hl:l.length<=1) {K:adS.T->OR} (h:∀x,Wp (K x) Q):Wp (Xz (T m) b (l.map aE) K) Q:=by
 obtain⟨m,rfl⟩:=bl 60 m;match l,hl with
 | [],_=>exact jk (arN m b) rfl (h _)
 | [s],_=>exact jk (arO m b s) rfl (h _)
 | a::c::t,hl=>simp at hl
def afG (hm:120<=m) {b:Bool} {tm:List TM} (hT:iW tm) {z:Int} {K:de.T->OR} (h:∀b (l:List BB),l.length<=1->Wp (K ((b,l.map aE),())) Q):Wp (c156 (T m) b (tm.map bH) z K) Q:=by
 obtain⟨m,rfl⟩:=bl 4 m;refine bI ajb (Vp (m:=m+3) (by omega) (aj (λ_=>aB (aH rfl (h true [] (by simp)))) (λg=>?_)));obtain⟨i,rfl,hi⟩:=abQ (show pP (tm.map xh) z=true by simpa using g);rw[cX] at hi;refine asE hT hi _ _ _ [] (by simp) λo ho=>?_
 have hl:o.length<=1:=ho;refine WV (o:=o) (λhe=>?_) (λhe=>?_)
 ·subst he;exact afz (m:=m+3) (l:=[]) (by omega) (by simp) λ_=>(afh (m:=m+3) (l:=[]) (by omega) (by simp) (aB (aH rfl (h _ [] (by simp)))))
 ·have e:aK (whole (iX (o.map aE)).1.2)=o.map aE:=by
   rw[dZ,show (iX (o.map aE)).1.2=o.map aE by cases o<;>rfl];exact pR o
  refine az (by simp) ?_;dsimp only[zB,zW,zO];rw[e];refine afz (m:=m+3) (by omega) hl λ_=>(az (by simp) ?_)
  exact afh (m:=m+3) (by omega) hl (aB (aH rfl (h _ o hl)))
def W6 (q:Nat) (wb:Bool) (ws:List WR) (hl:ws.length<=100) {K:de.T->OR} (h:∀b (l:List BB),l.length=ws.length->Wp (K ((b,l.map aE),())) Q):∀(c i:Nat) (o:List BB),ws.length - i < c->i<=ws.length->o.length=i->
  Wp (LP (T q) q c (o.map aE) wb (ws.map cW) (ae (ws.map cW).length) (i:Int)) (J de K Q)
 | 0,i,o,hc,_,_=>by omega
 | c+1,i,o,hc,hi,ho=>by
  refine aG aoh (aj (λg1=>?_) (λg1=>?_))
  ·have af:=bW g1;refine aS A8 rfl (gE af) (az (gW (by simp;omega) (by omega)) ?_);rw[w1 (by omega),dZ];have:=W6 q wb ws hl h c (i+1) (o++[ws[i].nm]) (by omega) (by omega) (by simp;omega);rw[eF] at this;exact this
  ·have:=Cy g1;refine az (by simp) ?_;rw[dZ,pR];exact aB (aH rfl (h false o (by omega)))
def afe (hm:210<=m) {s:PS} (ho:mD s) {K:de.T->OR} (h:∀b (l:List BB),l.length=(bq s).length->Wp (K ((b,l.map aE),())) Q) :
  Wp (zF (T m) s.kd s.nm s.pr s.lb s.pc s.tm s.gt (s.ag.map bN) s.ct (s.cs.map eM) s.wb (s.ws.map cW) s.nx K) Q:=by
 obtain⟨m,rfl⟩:=bT hm;obtain⟨r,hr⟩:=bl 1 m;have hl:=ho.2.2.2;have e1:LQ (T m) m m=LQ (T m) m (r+1):=by rw[<-hr]
 have e0:LM (T m) m m=LM (T m) m (r+1):=by rw[<-hr]
 have one:(s.kd=1\/s.kd=8)->Wp (some ((.one (lC (.im false) 1 [[(.str s.nm)]])),[])) (J de K Q):=λhk=>
  aB (aH rfl (h false [s.nm] (by unfold bq kO;rw[aP (by rcases hk with e | e<;>rw[e]<;>rfl)];rfl)))
 refine bI aiR (aj (λg=>one (.inl (by simpa using g))) (λg1=>aj (λg=>one (.inr (by simpa using g))) (λg2=>aj (λg=>?_) (λg3=>?_))))
 ·have hk:s.kd=5:=by simpa using g
  have hn:(bq s).length=s.ws.length:=by unfold bq kO;rw[aI (by rw[hk];decide)];simp
  rw[hn] at h;rw[e0];refine aG aog (aj (λg1=>?_) (λg1=>?_))
  ·have af:=bW (i:=0) g1;refine aS A8 (i:=0) rfl (gE af) (az rfl ?_);exact W6 m s.wb s.ws hl h r 1 [s.ws[0].nm] (by omega) (by omega) rfl
  ·have:=Cy (i:=0) g1;exact aB (aH rfl (h true [] (by simp;omega)))
 ·rw[e1];refine aG aoi (Vk (m:=m) (by omega) ho λb=>?_);have oA:(bq s).length<=100:=by
   unfold bq;split
   ·simp
   ·simpa using hl
  refine az ?_ ?_
  ·have:((bq s).map bN).length=(bq s).length:=by simp
   dsimp only;rw[this];simp;omega
  ·have e:∀n:Nat,aK (List.replicate n [D.str []])=(List.replicate n ([]:BB)).map aE:=by
    intro n;rw[show List.replicate n [D.str []]=(List.replicate n ([]:BB)).map aE by simp[aE],pR]
   rw[e];exact aB (aH rfl (h false _ (by simp)))
def aff (hm:120<=m) {b1 b2 b3:Bool} {r1 r2:RR} {aF:List PC} (hl:aF.length<=100) {s:BB} {z:Int} {K:bu.T->OR} (h:∀b,Wp (K (b,())) Q):Wp (c157 (T m) b1 r1 b2 r2 b3 (aF.map fA) s z K) Q:=by
 obtain⟨m,rfl⟩:=bT hm;have f:∀b,Wp (some (.one (bC b),[])) (J bu K Q):=λb=>aB (aH rfl (h b))
 refine bI aiS (N2 (m:=m) (by omega) hl (eW rfl (f false)) (λi hi=>aj (λ_=>?_) (λ_=>f false)));exact aS adn rfl (gE hi) (f _)
end
end
section
open Go Go.ax QQ
abbrev GR (b1 b2 b3:Bool) (ps:List PR) (r2:RR) (aF:List PC):aq cL:=((b1,ps.map cJ),(b2,r2),(b3,aF.map fA),())
section
variable {m:Nat} {Q:V->List (List C)->Prop} {b1 b2 b3:Bool} {ps:List PR} {r2:RR} {aF:List PC}
def aet (q:Nat) (hq:230<=q) {p:PR} (hp:p.rs.length<=100) {K:bu.T->OR} (h:∀b,Wp (K (b,())) Q) {c0:Nat} (o:List BB) (hl:o.length<=200):∀(c i:Nat),o.length - i < c->i<=o.length->
  Wp (L4 (T q) q c0 c (p.nm,(p.rt,p.rs.map aE),(p.pt,p.iw),()) (o.map aE) 0 (o.map aE).length (ae (o.map aE).length) (i:Int)) (J bu K Q)
 | 0,i,hc,_=>by omega
 | c+1,i,hc,hi=>by
  refine aG aot (aj (λg1=>?_) (λ_=>aB (aH rfl (h true))));have af:=bW g1;refine iA rfl (az (aM (by simpa using af)) (eg (b:=aE o[i]) (by rw[cQ,bQ,gE af];rfl) (az rfl (gi (v:=(o[i],())) rfl ?_))));refine Vh (m:=q) (N:=200) (by omega) (by omega) (by omega) λb=>aj (λ_=>aB (aH rfl (h false))) (λ_=>?_)
  rw[w1 (by omega)];exact aet q hq hp h o hl c (i+1) (by omega) (by omega)
def aeu (q:Nat) (hq:230<=q) {p:PR} (hp:p.rs.length<=100) {K:bu.T->OR} (h:∀b,Wp (K (b,())) Q) {c0:Nat} {cb:Bool} (cs:List CR) (hl:cs.length<=100):∀(c i:Nat) (o:List BB),cs.length - i < c->i<=cs.length->o.length=i+1->
  Wp (L6 (T q) q c0 c (p.nm,(p.rt,p.rs.map aE),(p.pt,p.iw),()) (o.map aE) cb (cs.map eM) (ae (cs.map eM).length) (i:Int)) (J bu K Q)
 | 0,i,o,hc,_,_=>by omega
 | c+1,i,o,hc,hi,ho=>by
  have fl:Wp rF (J bu K Q):=aB (aH rfl (h false));refine aG aov (aj (λg1=>?_) (λ_=>aj (λ_=>fl) (λ_=>az (by simp) ?_)))
  ·have af:=bW g1;refine aS (enc:=eM) (f:=λc=>(c.ro,c.pc,(c.gt,c.ag.map bN),())) (λa=>⟨by simp[eM],rfl⟩) rfl (gE af) (az (gW (by simp;omega) (by omega)) ?_);rw[w1 (by omega),dZ];have:=aeu q hq hp h (c0:=c0) (cb:=cb) cs hl c (i+1) (o++[cs[i].ro]) (by omega) (by omega) (by simp;omega);rw[eF] at this;exact this
  ·rw[dZ,pR];obtain⟨r,hr⟩:=bl 1 q;have e2:L5 (T q) q c0 q=L5 (T q) q c0 (r+1):=by rw[<-hr]
   refine N0 (m:=q) (N:=200) (by omega) (by omega) (by omega) λb=>aj (λ_=>fl) (λ_=>?_)
   rw[e2];exact aG aou (aet q hq hp h o (by omega) q 0 (by omega) (by omega))
def aes (q:Nat) (hq:230<=q) (fj:ps.length<=100) (fE:∀p∈ps,p.rs.length<=100) {s:PS} (ho:mD s) {bb:Bool} {K:bu.T->OR} (h:∀b,Wp (K (b,())) Q):∀(c i:Nat),ps.length - i < c->i<=ps.length->
  Wp (LZ (T q) q c (tS s) bb (ps.map cJ) (ae (ps.map cJ).length) (i:Int)) (J bu K Q)
 | 0,i,hc,_=>by omega
 | c+1,i,hc,hi=>by
  refine aG aos (aj (λg1=>?_) (λ_=>aB (aH rfl (h false))));have af:=bW g1;refine aS T9 rfl (gE af) (aj (λ_=>?_) (λ_=>?_))
  ·rw[w1 (by omega)];exact aes q hq fj fE ho h c (i+1) (by omega) (by omega)
  ·exact aeu q hq (fE _ (bU af)) h s.cs ho.2.1 q 0 [s.pr] (by have:=ho.2.1;omega) (by omega) rfl
def as' (hm:240<=m) (fj:ps.length<=100) (fE:∀p∈ps,p.rs.length<=100) {r3:RR} {s:PS} (ho:mD s) {K:bu.T->OR} (h:∀b,Wp (K (b,())) Q) :
  Wp (Xs (T m) b1 (ps.map cJ) b2 r2 b3 r3 s.kd s.nm s.pr s.lb s.pc s.tm s.gt (s.ag.map bN) s.ct (s.cs.map eM) s.wb (s.ws.map cW) s.nx K) Q:=by
 obtain⟨m,rfl⟩:=bT hm;exact bI aiZ (aes m (by omega) fj fE ho h m 0 (by omega) (by omega))
variable {K:iL.T->OR}
def aeE (q:Nat) (hq:240<=q) (fj:ps.length<=100) (fE:∀p∈ps,p.rs.length<=100) (gL:aF.length<=100) {s:PS} (ho:mD s) (h:∀e,Wp (K (e,())) Q):∀(c i:Nat),s.cs.length - i < c->i<=s.cs.length->
  Wp (Ma (T q) q c (GR b1 b2 b3 ps r2 aF) (tS s) s.ct (s.cs.map eM) (ae (s.cs.map eM).length) (i:Int)) (J iL K Q)
 | 0,i,hc,_=>by omega
 | c+1,i,hc,hi=>by
  have hl:=ho.2.1;have an:∀z,Wp (some ((.one (iC z)),[])) (J iL K Q):=λz=>aB (aH rfl (h z))
  refine aG aoH (aj (λg1=>?_) (λ_=>aj (λ_=>as' (m:=q) (by omega) fj fE ho λb=>aj (λ_=>an _) (λ_=>an _)) (λ_=>an _)));have af:=bW g1;refine aS (enc:=eM) (f:=λc=>(c.ro,c.pc,(c.gt,c.ag.map bN),())) (λa=>⟨by simp[eM],rfl⟩) rfl (gE af) ?_;refine aff (m:=q) (by omega) gL λb=>aj (λ_=>an _) (λ_=>?_)
  rw[w1 (by omega)];exact aeE q hq fj fE gL ho h c (i+1) (by omega) (by omega)
def ar1 (q:Nat) (hq:240<=q) (fj:ps.length<=100) (fE:∀p∈ps,p.rs.length<=100) (gL:aF.length<=100) {s:PS} (ho:mD s) (h:∀e,Wp (K (e,())) Q) :
  Wp (DI (T q) q q (GR b1 b2 b3 ps r2 aF) (tS s)) (J iL K Q):=by
 obtain⟨r,hr⟩:=bl 1 q;have e1:DI (T q) q q=DI (T q) q (r+1):=by rw[<-hr]
 rw[e1];exact aG aoI (aeE q hq fj fE gL ho h q 0 (by have:=ho.2.1;omega) (by omega))
def aeF (q:Nat) (hq:240<=q) (fj:ps.length<=100) (fE:∀p∈ps,p.rs.length<=100) (gL:aF.length<=100) {s:PS} (ho:mD s) (h:∀e,Wp (K (e,())) Q) {bb:Bool} {bd:List BB} (hb:bd.length<=200) {lb:Bool} (l:List BB) (hl:l.length<=100):∀(c i:Nat),l.length - i < c->i<=l.length->
  Wp (AP (T q) q c bb (bd.map aE) (GR b1 b2 b3 ps r2 aF) (tS s) lb (l.map aE) (ae (l.map aE).length) (i:Int)) (J iL K Q)
 | 0,i,hc,_=>by omega
 | c+1,i,hc,hi=>by
  have an:∀z,Wp (some ((.one (iC z)),[])) (J iL K Q):=λz=>aB (aH rfl (h z))
  have go:=ar1 q hq fj fE gL (b1:=b1) (b2:=b2) (b3:=b3) (r2:=r2) ho h;refine aG aoJ (aj (λg1=>?_) (λ_=>aj (λ_=>aff (m:=q) (by omega) gL λb=>aj (λ_=>an _) (λ_=>go)) (λ_=>go)));have af:=bW g1;rw[w1 (by omega)];have nx:=aeF q hq fj fE gL ho h (bb:=bb) hb (lb:=lb) l hl c (i+1) (by omega) (by omega);exact Vu rfl (gE af) (aj (λ_=>Vh (m:=q) (N:=200) (by omega) hb (by omega) λb=>aj (λ_=>an _) (λ_=>nx)) (λ_=>nx))
def aeK (q:Nat) (hq:240<=q) (fj:ps.length<=100) (fE:∀p∈ps,p.rs.length<=100) (gL:aF.length<=100) {s:PS} (ho:mD s) (h:∀e,Wp (K (e,())) Q) {bb:Bool} {bd:List BB} (hb:bd.length<=200) :
  Wp (zF (T q) s.kd s.nm s.pr s.lb s.pc s.tm s.gt (s.ag.map bN) s.ct (s.cs.map eM) s.wb (s.ws.map cW) s.nx λbr=>AP (T q) q q bb (bd.map aE) (GR b1 b2 b3 ps r2 aF) (tS s) br.1.1 br.1.2 (ae br.1.2.length) 0) (J iL K Q):=by
 have oA:(bq s).length<=100:=by
  unfold bq;split
  ·simp
  ·simpa using ho.2.2.2
 exact afe (m:=q) (by omega) ho λb l hl=>aeF q hq fj fE gL ho h hb l (by omega) q 0 (by omega) (by omega)
def aeG (q:Nat) (hq:240<=q) (fj:ps.length<=100) (fE:∀p∈ps,p.rs.length<=100) (gL:aF.length<=100) {s:PS} (ho:mD s) (h:∀e,Wp (K (e,())) Q) {bb:Bool} {bd:List BB} (hb:bd.length<=200) (o:List BB) (hl:o.length<=30000):∀(c i:Nat),o.length - i < c->i<=o.length->
  Wp (Mb (T q) q c bb (bd.map aE) (GR b1 b2 b3 ps r2 aF) (tS s) (o.map aE) 0 (o.map aE).length (ae (o.map aE).length) (i:Int)) (J iL K Q)
 | 0,i,hc,_=>by omega
 | c+1,i,hc,hi=>by
  refine aG aoK (aj (λg1=>?_) (λ_=>aeK q hq fj fE gL ho h hb));have af:=bW g1;refine iA rfl (az (aM (by simpa using af)) (eg (b:=aE o[i]) (by rw[cQ,bQ,gE af];rfl) (az rfl (gi (v:=(o[i],())) rfl ?_))));refine Vh (m:=q) (N:=200) (by omega) hb (by omega) λb=>aj (λ_=>aB (aH rfl (h _))) (λ_=>?_)
  rw[w1 (by omega)];exact aeG q hq fj fE gL ho h hb o hl c (i+1) (by omega) (by omega)
def aeH (q:Nat) (hq:30010<=q) (fj:ps.length<=100) (fE:∀p∈ps,p.rs.length<=100) (gL:aF.length<=100) {s:PS} (ho:mD s) (h:∀e,Wp (K (e,())) Q) {bb:Bool} {bd:List BB} (hb:bd.length<=200) (o:List BB) (hl:o.length<=30000) {x:aq fG} :
  Wp (pN (T q) q q bb (bd.map aE) (GR b1 b2 b3 ps r2 aF) x (tS s) (o.map aE)) (J iL K Q):=by
 obtain⟨r,hr⟩:=bl 1 q;have e1:pN (T q) q q=pN (T q) q (r+1):=by rw[<-hr]
 rw[e1];exact aG aoM (aeG q (by omega) fj fE gL ho h hb o hl q 0 (by omega) (by omega))
def aeI (q:Nat) (hq:30010<=q) (fj:ps.length<=100) (fE:∀p∈ps,p.rs.length<=100) (gL:aF.length<=100) {s:PS} (ho:mD s) (h:∀e,Wp (K (e,())) Q) {bb:Bool} {bd:List BB} (hb:bd.length<=200) {p:PC} (hT:iW p.tm) {lb:Bool} (l:List Int) (hl:l.length<=20000):∀(c i:Nat) (o:List BB),l.length - i < c->i<=l.length->o.length<=i->
  Wp (Me (T q) q c bb (bd.map aE) (GR b1 b2 b3 ps r2 aF) (tP p) (tS s) (o.map aE) lb (l.map bN) (ae (l.map bN).length) (i:Int)) (J iL K Q)
 | 0,i,o,hc,_,_=>by omega
 | c+1,i,o,hc,hi,hol=>by
  have go:∀o:List BB,o.length<=30000->Wp (pN (T q) q q bb (bd.map aE) (GR b1 b2 b3 ps r2 aF) (tP p) (tS s) (o.map aE)) (J iL K Q):=λo hl=>aeH q hq fj fE gL ho h hb o hl
  have more:Wp (gd ((o.map aE).length==(o.map aE).length&&true&&decide (((o.map aE).length+1) * 16<=140737488355328)) (pN (T q) q q bb (bd.map aE) (GR b1 b2 b3 ps r2 aF) (tP p) (tS s) (o.map aE++whole ([[D.str []]].set 0 [D.str s.nm])))) (J iL K Q):=by
   refine az (gW (by simp;omega) (by omega)) ?_;rw[dZ];have:=go (o++[s.nm]) (by simp;omega);rw[eF] at this;exact this
  refine aG aoP (aj (λg1=>?_) (λ_=>aj (λ_=>more) (λ_=>aj (λ_=>more) (λ_=>aj (λ_=>more) (λ_=>go o (by omega))))));have af:=bW g1;refine aS qF rfl (gE af) ?_;refine afG (m:=q) (by omega) hT λb l' lQ=>az ?_ ?_
  ·dsimp only;rw[EC];simp;omega
  ·dsimp only;rw[w1 (by omega),<-eF];exact aeI q hq fj fE gL ho h hb hT l hl c (i+1) (o++l') (by omega) (by omega) (by simp;omega)
def aeJ (q:Nat) (hq:30010<=q) (fj:ps.length<=100) (fE:∀p∈ps,p.rs.length<=100) (gL:aF.length<=100) {s:PS} (ho:mD s) (h:∀e,Wp (K (e,())) Q) {bb:Bool} {bd:List BB} (hb:bd.length<=200) {p:PC} (hT:iW p.tm) {lb:Bool} (l:List Int) (hl:l.length<=20000):∀(c i:Nat),l.length - i < c->i<=l.length->
  Wp (Md (T q) q c bb (bd.map aE) (GR b1 b2 b3 ps r2 aF) (tP p) (tS s) true [] lb (l.map bN) (ae (l.map bN).length) (i:Int)) (J iL K Q)
 | 0,i,hc,_=>by omega
 | c+1,i,hc,hi=>by
  obtain⟨r,hr⟩:=bl 1 q;have e1:Mc (T q) q q=Mc (T q) q (r+1):=by rw[<-hr]
  have e2:Hj (T q) q q=Hj (T q) q (r+1):=by rw[<-hr]
  have go:Wp (pN (T q) q q bb (bd.map aE) (GR b1 b2 b3 ps r2 aF) (tP p) (tS s) [[.str s.nm]]) (J iL K Q):=aeH q hq fj fE gL ho h hb [s.nm] (by simp);refine aG aoO (aj (λg1=>?_) (λ_=>aj (λ_=>az rfl go) (λ_=>aj (λ_=>az rfl go) (λ_=>aj (λ_=>az rfl go) (λ_=>?_)))))
  ·have af:=bW g1;refine aS qF rfl (gE af) ?_;refine afG (m:=q) (by omega) hT λb l' lQ=>az ?_ ?_
   ·dsimp only;rw[EC];simp;omega
   ·dsimp only;rw[w1 (by omega)];refine aj (λg=>?_) (λg=>?_)
    ·rw[show l'.map aE=[] by simpa using g];exact aeJ q hq fj fE gL ho h hb hT l hl c (i+1) (by omega) (by omega)
    ·exact aeI q hq fj fE gL ho h hb hT l hl c (i+1) l' (by omega) (by omega) (by omega)
  ·rw[e1];refine aG aoN ?_;rw[e2];exact aG aoL (eW rfl (aeK q (by omega) fj fE gL ho h hb))
def atc (hm:30020<=m) (fj:ps.length<=100) (fE:∀p∈ps,p.rs.length<=100) (gL:aF.length<=100) {s:PS} (ho:mD s) (h:∀e,Wp (K (e,())) Q) {bb:Bool} {bd:List BB} (hb:bd.length<=200) {p:PC} (hT:iW p.tm) :
  Wp (I9 (T m) b1 (ps.map cJ) b2 r2 b3 (aF.map fA) p.nm p.pb (p.pm.map eG) p.tb (p.tm.map bH) p.sb (p.ss.map dA) s.kd s.nm s.pr s.lb s.pc s.tm s.gt (s.ag.map bN) s.ct (s.cs.map eM) s.wb (s.ws.map cW) s.nx bb (bd.map aE) K) Q:=by
 obtain⟨m,rfl⟩:=bT hm;exact bI ai2 (afC (m:=m) (by omega) ho λb l hl=>aeJ m (by omega) fj fE gL ho h hb hT l hl m 0 (by omega) (by omega))
end
end
section
open Go Go.ax QQ
def vD (o:Option (List BB)):List BB:=o.getD []
def gD (o:Option (List BB)):Tag:=match o with | none=>.im true | some _=>.own
def cD (o:Option (List BB)):List D:=[.sl (gD o) 1 ((vD o).map aE)]
theorem Uq {l:List (Option (List BB))} {i:Nat} (h:i < l.length) {v:List BB}:bS (l.map cD) (0+i) 0 (.sl .own 1 (v.map aE))=(l.set i (some v)).map cD:=by
 have:(l.map cD).getD (0+i) []=cD l[i]:=by simp[List.getD,h]
 unfold bS;rw[this,cQ,vx];rfl
theorem adU {l:List (Option (List BB))} {i:Nat} (h:i < l.length) {v:List BB}:bS (bS (l.map cD) (0+i) 0 .dead) (0+i) 0 (.sl .own 1 (v.map aE))=(l.set i (some v)).map cD:=by
 rw[<-Uq h];unfold bS;have e:(((l.map cD).set (0+i) (((l.map cD).getD (0+i) []).set 0 .dead)).getD (0+i) [])=((l.map cD).getD (0+i) []).set 0 .dead:=by
  simp[List.getD,h]
 rw[e,Wh,Wh]
def SB (l:List (Option (List BB))) (n:Nat):Prop:=l.length=n/\∀k o,l[k]? = some o->(vD o).length<=10+k
theorem SB.set {l:List (Option (List BB))} {n k:Nat} {v:List BB} (h:SB l n) (hv:v.length<=10+k):SB (l.set k (some v)) n:=by
 refine⟨by simpa using h.1,λj o hj=>?_⟩;by_cases e:k=j
 ·subst e;by_cases hk:k < l.length
  ·rw[vp hk] at hj;cases hj;exact hv
  ·rw[zo (by simp;omega)] at hj;cases hj
 ·rw[qR e] at hj;exact h.2 j o hj
theorem akl (l:List BB):sN (l.map aE)=true:=by
 simp[sN,aE,D.flat]
section
variable {m:Nat} {Q:V->List (List C)->Prop} {b1 b2 b3:Bool} {ps:List PR} {r2:RR} {aF:List PC} {K:dF.T->OR}
theorem Cb {l:List (Option (List BB))} {i:Nat} (h:i < l.length):(l.map cD)[0+i]? = some (cD l[i]):=by
 rw[cQ,bQ,gE h];rfl
theorem XZ {l:List (Option (List BB))} {i:Nat} (h:i < l.length) {z:Int} (hz:z=(i:Int)) {F:Bool->List D->aq [.sl 1]->OR} {G:Nat->aq [.sl 1]->OR} (hF:gD l[i] = .im true->vD l[i]=[]->Wp (F true (cD l[i]) ((.im true,[]),())) Q) (hG:gD l[i] = .own->Wp (G i ((.own,(vD l[i]).map aE),())) Q) :
  Wp (ay (bL z) λrG=>gd (decide (rG < (l.map cD).length)) (ay ((l.map cD)[0+rG]?) λoN=>gd (decide (1<=oN.length)) (bR [.sl 1] (List.take 1 (List.drop 0 oN)) λft=>zZ ft.1.1 λt38=>zM t38 (λb=>F b oN ft) (G rG ft)))) Q:=by
 refine iA hz (az (aM (by simpa using h)) (eg (Cb h) (az rfl (gi (v:=((gD l[i],(vD l[i]).map aE),())) rfl ?_))));cases hx:l[i] with
 | none=>rw[hx] at hF;exact eL (hF rfl rfl)
 | some o=>rw[hx] at hG;exact ij (hG rfl)
theorem Cc {l:List (Option (List BB))} {i:Nat} (h:i < l.length) (ho:gD l[i] = .own) {F:RR->OR} (hF:Wp (F ((vD l[i]).map aE)) Q) :
  Wp (ay ((l.map cD)[0+i]?) λTr=>ay (Tr[0]?) λTs=>ga Ts λVB M6=>gd (VB==1) (F M6)) Q:=
 eg (Cb h) (eg (b:=.sl .own 1 ((vD l[i]).map aE)) (by rw[<-ho];rfl) (Ix (az rfl hF)))
theorem X0 {l:List (Option (List BB))} {i:Nat} (h:i < l.length) {z:Int} (hz:z=(i:Int)) {F:Nat->OR} (hF:Wp (F i) Q) :
  Wp (ay (bL z) λwO=>gd (decide (wO < (l.map cD).length)) (ay ((l.map cD)[0+wO]?) λAX=>gd (decide (1<=AX.length)&&true) (bR [.any] (List.take 1 (List.drop 0 AX)) λv49=>F wO))) Q:=
 iA hz (az (aM (by simpa using h)) (eg (Cb h) (az rfl (gi (v:=(.sl (gD l[i]) 1 ((vD l[i]).map aE),())) rfl hF))))
theorem XX {l:List (Option (List BB))} {i:Nat} (h:i < l.length):(bS (l.map cD) (0+i) 0 D.dead)[0+i]? = some [.dead]:=by
 have:(l.map cD).getD (0+i) []=cD l[i]:=by simp[List.getD,h]
 unfold bS;rw[this];simp[h,cD]
variable (fj:ps.length<=100) (fE:∀p∈ps,p.rs.length<=100) (gL:aF.length<=100) {p:PC} (hp:jN p) (mh:p.ss.length<=80) (xU:SF p.ss) (hF:pf K Q) (h:Wp (K ((0,0,0,()),())) Q) {a0:Nat} {a2:aq eQ}
include hp mh xU hF h in
theorem ad6 (q:Nat) (hq:30030<=q) {c0 n:Nat} {s:PS} (hs:p.ss[n]? = some s) {mb nb:Bool} {mr:List BB} (hm:mr.length=(bq s).length)
  (hZ:∀l,SB l p.ss.length->Wp (Hh (T q) q c0 (a0:Int) (GR b1 b2 b3 ps r2 aF) a2 (tP p) (l.map cD) p.sb (p.ss.map dA) (ae (p.ss.map dA).length) ((n+1:Nat):Int)) (J dF K Q)):∀(c j:Nat) (l:List (Option (List BB))),(bq s).length - j < c->j<=(bq s).length->SB l p.ss.length->
  Wp (yx (T q) q c0 c (a0:Int) (GR b1 b2 b3 ps r2 aF) a2 (tP p) (l.map cD) p.sb (p.ss.map dA) (ae (p.ss.map dA).length) (n:Int) (n:Int) mb (mr.map aE) nb ((bq s).map bN) (ae ((bq s).map bN).length) (j:Int)) (J dF K Q)
 | 0,j,l,hc,_,_=>by omega
 | c+1,j,l,hc,hj,hl=>by
  have hn:n < p.ss.length:=(cd.1 hs).1;have oA:(bq s).length<=100:=by
   unfold bq;split
   ·simp
   ·simpa using (hp.s2 s (ff hs)).2.2.2
  refine aG aox (aj (λg1=>?_) (λ_=>?_))
  ·have af:=bW g1;have hg:(bq s)[j]? = some (bq s)[j]:=gE af;obtain⟨k,hk,uH,kP⟩:=xU.e n s _ hs (ff hg);have nl:n < l.length:=by rw[hl.1];exact hn
   have kl:k < l.length:=by rw[hl.1];exact kP
   obtain⟨r,hr⟩:=bl 1 q;have e2:DG (T q) q c0 c q=DG (T q) q c0 c (r+1):=by rw[<-hr]
   have De:=hl.2 n _ (gE nl);generalize hv:vD l[n]=v at De;refine aS qF rfl hg ?_;dsimp only;rw[hk];have go:Wp (DG (T q) q c0 c q (a0:Int) (GR b1 b2 b3 ps r2 aF) a2 (tP p) (bS (l.map cD) (0+k) 0 (.sl .own 1 (v.map aE))) p.sb (p.ss.map dA) (ae (p.ss.map dA).length) (n:Int) (n:Int) mb (mr.map aE) nb ((bq s).map bN) (ae ((bq s).map bN).length) (j:Int) (j:Int) (k:Int)) (J dF K Q):=by
    rw[Uq kl,e2];have ew:SB (l.set k (some v)) p.ss.length:=hl.set (by omega);have nx:∀l,SB l p.ss.length->Wp (yx (T q) q c0 c (a0:Int) (GR b1 b2 b3 ps r2 aF) a2 (tP p) (l.map cD) p.sb (p.ss.map dA) (ae (p.ss.map dA).length) (n:Int) (n:Int) mb (mr.map aE) nb ((bq s).map bN) (ae ((bq s).map bN).length) (ak ((j:Int)+1))) (J dF K Q):=by
     intro l hl;rw[w1 (by omega)];exact ad6 q hq hs hm hZ c (j+1) l (by omega) (by omega) hl
    have GN:k < (l.set k (some v)).length:=by simpa using kl
    have Rj:(l.set k (some v))[k]=some v:=by simp
    have Z4:mr[j]? = some (mr[j]'(by omega)):=gE (by omega);refine aG aoy (Vu rfl Z4 (aj (λ_=>?_) (λ_=>nx _ ew)));have own:gD (l.set k (some v))[k] = .own:=by rw[Rj];rfl
    have val:vD (l.set k (some v))[k]=v:=by rw[Rj];rfl
    refine iA rfl (az (aM (by simpa using kl)) (eg (Cb GN) (az rfl (gi (v:=(v.map aE,())) (by rw[Rj];rfl) (Vu rfl Z4 (Cc GN own (az ?_ (iA rfl (az (aM (by simpa using kl)) (az (Nat.beq_refl _) (Cc GN own (eg (XX GN) (az rfl (gi (v:=(.dead,())) rfl ?_))))))))))))))
    ·rw[val];exact gW (by simp;omega) (by omega)
    ·rw[val,dZ];have:v.map aE++[[D.str []]].set 0 [D.str (mr[j]'(by omega))]=(v++[mr[j]'(by omega)]).map aE:=by rw[eF];rfl
     dsimp only;rw[this,adU GN];exact nx _ (ew.set (by simp;omega))
   refine XZ nl rfl (λg g'=>?_) (λg=>Cc nl g ?_)
   ·rw[g'] at hv;subst hv;exact az rfl (X0 kl rfl go)
   ·have e:List.take ((vD l[n]).map aE).length (List.drop 0 ((vD l[n]).map aE))=v.map aE:=by rw[hv,su,ES]
    dsimp only;rw[e];refine az ?_ (az ?_ (X0 kl rfl go))
    ·rw[akl];simp
    ·rw[EC];simp;omega
  ·rw[w1 (by omega)];exact hZ l hl
include fj fE gL hp mh xU hF h in
theorem ad5 (q:Nat) (hq:30030<=q):∀(c n:Nat) (l:List (Option (List BB))),p.ss.length - n < c->n<=p.ss.length->SB l p.ss.length->
  Wp (Hh (T q) q c (a0:Int) (GR b1 b2 b3 ps r2 aF) a2 (tP p) (l.map cD) p.sb (p.ss.map dA) (ae (p.ss.map dA).length) (n:Int)) (J dF K Q)
 | 0,n,l,hc,_,_=>by omega
 | c+1,n,l,hc,hn,hl=>by
  refine aG aow (aj (λg1=>?_) (λ_=>aB (aH rfl h)));have af:=bW g1;have hs:p.ss[n]? = some p.ss[n]:=gE af;generalize p.ss[n]=s at hs;have ho:=hp.s2 s (ff hs);have nl:n < l.length:=by rw[hl.1];exact af
  have De:=hl.2 n _ (gE nl);generalize hv:vD l[n]=v at De;refine aS (enc:=dA) (f:=tS) (λa=>⟨by simp[dA],rfl⟩) rfl hs ?_;have go:∀bb,Wp (I9 (T q) b1 (ps.map cJ) b2 r2 b3 (aF.map fA) p.nm p.pb (p.pm.map eG) p.tb (p.tm.map bH) p.sb (p.ss.map dA) s.kd s.nm s.pr s.lb s.pc s.tm s.gt (s.ag.map bN) s.ct (s.cs.map eM) s.wb (s.ws.map cW) s.nx bb (v.map aE) λv28=>(bif (v28.1 != 0) then(c46 (T q) v28.1 (a0:Int) (n:Int) λkH=>(some ((.agg [(iC kH.1.1),(iC kH.1.2.1),(iC kH.1.2.2.1)]),[]))) else(zF (T q) s.kd s.nm s.pr s.lb s.pc s.tm s.gt (s.ag.map bN) s.ct (s.cs.map eM) s.wb (s.ws.map cW) s.nx λv30=>(B6 (T q) s.kd s.nm s.pr s.lb s.pc s.tm s.gt (s.ag.map bN) s.ct (s.cs.map eM) s.wb (s.ws.map cW) s.nx λv31=>(yx (T q) q c q (a0:Int) (GR b1 b2 b3 ps r2 aF) a2 (tP p) (l.map cD) p.sb (p.ss.map dA) (ae (p.ss.map dA).length) (n:Int) (n:Int) v30.1.1 v30.1.2 v31.1.1 v31.1.2 (ae v31.1.2.length) 0))))) (J dF K Q):=by
   intro bb;refine atc (m:=q) (by omega) fj fE gL ho (λe=>?_) (by omega) hp.t2;refine aj (λg=>mg hF (by omega) (On.1 g)) (λ_=>afe (m:=q) (by omega) ho λmb mr hm=>Vk (m:=q) (by omega) ho λnb=>?_);have oA:(bq s).length<=100:=by
    unfold bq;split
    ·simp
    ·simpa using ho.2.2.2
   exact ad6 hp mh xU hF h q hq hs hm (λl hl=>ad5 q hq c (n+1) l (by omega) (by omega) hl) q 0 l (by omega) (by omega) hl
  refine XZ nl rfl (λg g'=>?_) (λg=>Cc nl g (az (by simp) ?_))
  ·rw[g'] at hv;subst hv;exact go true
  ·have e:aK (List.take ((vD l[n]).map aE).length (List.drop 0 ((vD l[n]).map aE)))=v.map aE:=by rw[hv,su,ES,pR]
   dsimp only;rw[e];exact go false
include fj fE gL hp mh xU hF h in
theorem ad7 (q:Nat) (hq:30030<=q):∀(c i:Nat) (l:List (Option (List BB))),p.pm.length - i < c->i<=p.pm.length->SB l p.ss.length->(∀o,l[0]? = some o->(vD o).length<=i)->
  Wp (AN (T q) q c (a0:Int) (GR b1 b2 b3 ps r2 aF) a2 (tP p) (l.map cD) p.pb (p.pm.map eG) (ae (p.pm.map eG).length) (i:Int)) (J dF K Q)
 | 0,i,l,hc,_,_,_=>by omega
 | c+1,i,l,hc,hi,hl,h0=>by
  refine aG aoz (aj (λg1=>?_) (λ_=>ad5 fj fE gL hp mh xU hF h q hq q 0 l (by omega) (by omega) hl));have af:=bW g1;have h2:=hp.p1;have zl:0 < l.length:=by rw[hl.1];exact hp.s0
  have z1:decide (Int.toNat 0 < (l.map cD).length)=true:=aM (by simpa using zl);have De:=h0 _ (gE zl);have nx:∀v:List BB,v.length<=i+1->Wp (AN (T q) q c (a0:Int) (GR b1 b2 b3 ps r2 aF) a2 (tP p) ((l.set 0 (some v)).map cD) p.pb (p.pm.map eG) (ae (p.pm.map eG).length) (ak ((i:Int)+1))) (J dF K Q):=by
   intro v hv;rw[w1 (by omega)];refine ad7 q hq c (i+1) _ (by omega) (by omega) (hl.set (by omega)) (λo ho=>?_);rw[vp zl] at ho;cases ho;exact hv
  refine aS HS rfl (gE af) ?_;refine az z1 (eg (Cb zl) (az rfl (gi (v:=((gD l[0],(vD l[0]).map aE),())) rfl ?_)));cases hx:gD l[0] with
  | im b=>
   have hb:b=true:=by
    cases hy:l[0] with
    | none=>rw[hy] at hx;cases hx;rfl
    | some o=>rw[hy] at hx;cases hx
   subst hb;refine eL (az rfl (az z1 (eg (Cb zl) (az rfl (gi (v:=(.sl (gD l[0]) 1 ((vD l[0]).map aE),())) rfl ?_)))));have:=nx [p.pm[i].1] (by simp);rw[<-Uq zl] at this;exact this
  | own=>
   refine ij (Cc zl hx (az (gW (by simp;omega) (by omega)) (az z1 (Cc zl hx (eg (XX zl) (az rfl (gi (v:=(.dead,())) rfl ?_)))))));have:=nx (vD l[0]++[p.pm[i].1]) (by simp;omega);rw[<-adU zl,eF] at this;rw[dZ];exact this
end
section
variable {m:Nat} {Q:V->List (List C)->Prop}
theorem as7 (hm:30040<=m) {b1 b2 b3:Bool} {ps:List PR} {r2:RR} {aF:List PC} {K:dF.T->OR} (fj:ps.length<=100) (fE:∀p∈ps,p.rs.length<=100) (gL:aF.length<=100) {p:PC} {i:Nat} (hi:aF[i]? = some p) (hp:jN p) (mh:p.ss.length<=80) (xU:SF p.ss) (hF:pf K Q) (h:Wp (K ((0,0,0,()),())) Q) :
  Wp (XF (T m) b1 (ps.map cJ) b2 r2 b3 (aF.map fA) (i:Int) K) Q:=by
 obtain⟨m,rfl⟩:=bT hm;have h2:=hp.p1;refine bI ai0 (aS (enc:=fA) (f:=tP) (λa=>⟨by simp[fA],rfl⟩) rfl hi (az ?_ ?_))
 ·have:(p.ss.map dA).length=p.ss.length:=by simp
  show (decide ((p.ss.map dA).length<=(p.ss.map dA).length)&&decide ((p.ss.map dA).length * 24<=_)&&decide ((p.ss.map dA).length<=_)&&true&&(!(p.ss.map dA).length==0||(p.ss.map dA).length==0))=true;rw[this];simp;omega
 ·show Wp (AN (T m) m m (i:Int) (GR b1 b2 b3 ps r2 aF) (0,0,0,()) (tP p) (List.replicate (p.ss.map dA).length [D.sl (.im true) 1 []]) p.pb (p.pm.map eG) (ae (p.pm.map eG).length) 0) _;have e:List.replicate (p.ss.map dA).length [D.sl (.im true) 1 []]=(List.replicate p.ss.length none).map cD:=by simp[cD,gD,vD]
  rw[e];have hv:∀(k:Nat) o,(List.replicate p.ss.length (none:Option (List BB)))[k]? = some o->(vD o).length=0:=by
   intro k o ho;rw[VF] at ho;split at ho
   ·cases ho;rfl
   ·cases ho
  exact ad7 fj fE gL hp mh xU hF h m (by omega) m 0 _ (by omega) (by omega) ⟨by simp,λk o ho=>by rw[hv k o ho];omega⟩ (λo ho=>by rw[hv 0 o ho];omega)
end
end
section
open Go Go.ax QQ
abbrev GT (b1 b2 b3:Bool) (ps:List PR) (r2:RR) (aF:List PC):aq kq:=((.im b1,ps.map cJ),(.im b2,r2),(.im b3,aF.map fA),())
section
variable {m:Nat} {Q:V->List (List C)->Prop} {b1 b2 b3:Bool} {ps:List PR} {r2:RR} {aF:List PC}
def ad0 (q:Nat) (hq:1900<=q) {gs:List GP} (gR:gs.length<=100) (hg:∀g∈gs,lE g) {K:dF.T->OR} (hF:pf K Q) (h:Wp (K ((0,0,0,()),())) Q) {bb:Bool} {a1:aq eQ}:∀(c i:Nat),gs.length - i < c->i<=gs.length->
  Wp (LK (T q) q c (GR b1 b2 b3 (gs.map eD) [] aF) a1 bb ((gs.map eD).map cJ) (ae ((gs.map eD).map cJ).length) (i:Int)) (J dF K Q)
 | 0,i,hc,_=>by omega
 | c+1,i,hc,hi=>by
  refine aG aod (aj (λg1=>?_) (λ_=>?_))
  ·have Ap:=bW g1;have af:i < gs.length:=by simpa using Ap
   have ok:=hg _ (bU af);refine aS T9 rfl (a:=eD gs[i]) (by rw[bQ,gE af];rfl) ?_;show Wp (Pk _ gs[i].nm false (((List.range gs[i].M).map cK).map aE) false (gs[i].ps.map cP) _) _;rw[Pq];refine jk (Zv (M:=500) (by omega) (T8 ok.2)) rfl (aj (λ_=>mg hF (by omega) (by decide)) (λ_=>?_));rw[w1 (by omega)];exact ad0 q hq gR hg hF h c (i+1) (by omega) (by omega)
  ·obtain⟨r,hr⟩:=bl 1 q;rw[show He (T q) q q=He (T q) q (r+1) by rw[<-hr]];exact aG aoc (eW rfl (aB (aH rfl h)))
def as4 (hm:1910<=m) {gs:List GP} (gR:gs.length<=100) (hg:∀g∈gs,lE g) {K:dF.T->OR} (hF:pf K Q) (h:Wp (K ((0,0,0,()),())) Q):Wp (XC (T m) b1 ((gs.map eD).map cJ) b2 [] b3 (aF.map fA) K) Q:=by
 obtain⟨m,rfl⟩:=bT hm;obtain⟨r,hr⟩:=bl 1 m;have e0:LL (T m) m m=LL (T m) m (r+1):=by rw[<-hr]
 have fl:=mg hF (m:=m) (by omega) (e:=1500) (a:=-1) (b:=-1) (by decide);refine bI aiP (aj (λ_=>fl) (λ_=>aj (λ_=>fl) (λ_=>aj (λ_=>fl) (λ_=>?_))));rw[e0];exact aG aoe (ad0 m (by omega) gR hg hF h m 0 (by omega) (by omega))
def Yx (q:Nat) (hq:30050<=q) {r1:RR} (gS:r1=ps.map cJ) (di:aF.length<=20) (hp:∀p∈aF,jN p) {K:Nr.T->OR} (hf:∀e a b,e≠0->Wp (K ((e,a,b,()),GR b1 b2 b3 ps r2 aF,((),()),())) Q)
  (h:(∀p∈aF,HD p/\SF p.ss)->Wp (K ((0,0,0,()),GR b1 b2 b3 ps r2 aF,((),()),())) Q) {x0:aq cL} {x1 a1:aq jR} {a2:aq eQ}:∀(c i:Nat) (a1:aq jR),aF.length - i < c->i<=aF.length->(∀(j:Nat) p,j < i->aF[j]? = some p->HD p/\SF p.ss)->
  Wp (LD (T q) q x0 x1 c (GT b1 b2 b3 ps r2 aF) a1 a2 (ae (aF.map fA).length) (i:Int)) (J Nr K Q)
 | 0,i,a1,hc,_,_=>by omega
 | c+1,i,a1,hc,hi,bh=>by
  refine aG an5 (aj (λg1=>?_) (λg1=>aB (aH rfl (h λp hp=>?_))))
  ·have af:=bW g1;have hg:aF[i]? = some aF[i]:=gE af;have ok:=hp _ (bU af);obtain⟨r,hr⟩:=bl 3 q;have e0:LG (T q) q x0 x1 c q=LG (T q) q x0 x1 c (r+2+1):=by rw[show r+2+1=q by omega]
   rw[e0];have fail:∀{X:OR},∀e a b,e≠0->Wp (bif (e != 0) then(some ((.agg [(iC e),(iC a),(iC b)]),[(bx kq (GT b1 b2 b3 ps r2 aF)),(bx jR ((),()))])) else X) (J Nr K Q):=λe a b he=>cF (On.2 he) (aB (aH rfl (hf e a b he)))
   refine aG an6 (eL (eL (eL ?_)));refine as9 (m:=q) (by omega) (by omega) hg ok fail λhd=>eW rfl ?_
   refine aG an7 (eL (eL (eL ?_)));refine as8 (m:=q) (by omega) (by exact fail) hg ok hd.hs hd.ht λhsf=>eW rfl ?_
   refine aG an8 ?_;rw[w1 (by omega)];refine Yx q hq gS di hp hf h (a1:=a1) c (i+1) _ (by omega) (by omega) λj p hj RD=>?_
   by_cases Gb:j < i
   ·exact bh j p Gb RD
   ·rw[show j=i by omega,hg] at RD;cases RD;exact⟨hd,hsf⟩
  ·have:=Cy g1;obtain⟨j,hj,rfl⟩:=ER hp;exact bh j _ (by omega) (gE hj)
def Yy (q:Nat) (hq:30050<=q) (fj:ps.length<=100) (fE:∀p∈ps,p.rs.length<=100) (di:aF.length<=20) (hp:∀p∈aF,jN p) (hh:∀p∈aF,HD p/\SF p.ss) {K:Ns.T->OR} (hf:∀e a b,e≠0->Wp (K ((e,a,b,()),GR b1 b2 b3 ps r2 aF,((),()),())) Q)
  (h:Wp (K ((0,0,0,()),GR b1 b2 b3 ps r2 aF,((),()),())) Q) {x0:aq cL} {x1:aq lg} {a2:aq eQ}:∀(c i:Nat) (a1:aq lg),aF.length - i < c->i<=aF.length->
  Wp (LH (T q) q x0 x1 c (GT b1 b2 b3 ps r2 aF) a1 a2 (ae (aF.map fA).length) (i:Int)) (J Ns K Q)
 | 0,i,a1,hc,_=>by omega
 | c+1,i,a1,hc,hi=>by
  refine aG an9 (aj (λg1=>?_) (λg1=>aB (aH rfl h)));have af:=bW g1;have hg:aF[i]? = some aF[i]:=gE af;have hm:=bU af;obtain⟨r,hr⟩:=bl 3 q;have e0:LI (T q) q x0 x1 c q=LI (T q) q x0 x1 c (r+2+1):=by rw[show r+2+1=q by omega]
  rw[e0];have fail:∀{X:OR},∀e a b,e≠0->Wp (bif (e != 0) then(some ((.agg [(iC e),(iC a),(iC b)]),[(bx kq (GT b1 b2 b3 ps r2 aF)),(bx lg ((),()))])) else X) (J Ns K Q):=λe a b he=>cF (On.2 he) (aB (aH rfl (hf e a b he)))
  refine aG an' (eL (eL (eL ?_)));refine as7 (m:=q) (by omega) fj fE (by omega) hg (hp _ hm) (hh _ hm).1.hs (hh _ hm).2 fail (eW rfl ?_);refine aG aoa ?_;rw[w1 (by omega)];exact Yy q hq fj fE di hp hh hf h c (i+1) _ (by omega) (by omega)
def CkK (aF:List PC) (K:dF.T->OR) (Q:V->List (List C)->Prop):Prop:=pf K Q/\((∀p∈aF,HD p/\SF p.ss)->Wp (K ((0,0,0,()),())) Q)
def asM (hm:30060<=m) {gs:List GP} (gR:gs.length<=100) (hg:∀g∈gs,lE g) (di:aF.length<=20) (hp:∀p∈aF,jN p) {K:dF.T->OR} (hK:CkK aF K Q):Wp (c12 (T m) b1 ((gs.map eD).map cJ) b2 [] b3 (aF.map fA) K) Q:=by
 obtain⟨m,rfl⟩:=bl 2 m;obtain⟨r,hr⟩:∃r,m+1=r+5:=⟨m - 4,by omega⟩
 have e0:LC (T (m+1)) (m+1) (m+1)=LC (T (m+1)) (m+1) (r+4+1):=by rw[show r+4+1=m+1 by omega]
 have ala:(gs.map eD).length<=100:=by simpa using gR
 have Rk:∀p∈gs.map eD,p.rs.length<=100:=by
  intro p hp;obtain⟨g,vY,rfl⟩:=kJ.1 hp;have:=(hg g vY).2.2.1;simp[eD];omega
 obtain⟨hF,h⟩:=hK;refine bI aiH ?_;refine bI aiI (aB (aH rfl ?_));refine bI aiL (aB (aH rfl ?_));rw[e0];have fail:∀{X:OR} (e a b:Int),e≠0->Wp (bif (e != 0) then(some ((.agg [(iC e),(iC a),(iC b)]),[])) else X) (J dF K Q):=λe a b he=>cF (On.2 he) (aB (aH rfl (hF e a b he)))
 refine aG an0 ?_;have Ig:Wp (SM (T (m+1)) (m+1) (r+4) (GR b1 b2 b3 (gs.map eD) [] aF) (0,0,0,()) ((),()) ((),())) (J dF K Q):=by
  refine aG an1 (bI aiJ (Yx (b1:=b1) (b2:=b2) (b3:=b3) (ps:=gs.map eD) (r2:=[]) m (by omega) rfl di hp (λe a b he=>fail e a b he) (λhh=>eW rfl ?_) (a1:=((),())) m 0 _ (by omega) (by omega) (λj p hj=>by omega)));have st4:∀x:aq eQ,Wp (SN (T (m+1)) (m+1) (r+2) (GR b1 b2 b3 (gs.map eD) [] aF) x ((),()) ((),())) (J dF K Q):=by
   intro x;refine aG an3 (bI aiK (Yy (b1:=b1) (b2:=b2) (b3:=b3) (ps:=gs.map eD) (r2:=[]) m (by omega) ala Rk di hp hh (λe a b he=>fail e a b he) (eW rfl ?_) m 0 _ (by omega) (by omega)));exact aG an4 (aB (aH rfl (h hh)))
  refine aG an2 (bI aiN ?_);have no:∀{F:Nq.T->OR} {Q':V->List (List C)->Prop},(∀e a b,e≠0->Wp (F ((e,a,b,()),GR b1 b2 b3 (gs.map eD) [] aF,())) Q')->Wp (c46 (T m) 1504 (-1) (-1) λv1=>(some ((.agg [(iC v1.1.1),(iC v1.1.2.1),(iC v1.1.2.2.1)]),[(bx kq (GT b1 b2 b3 (gs.map eD) [] aF))]))) (J Nq F Q'):=λhk=>afk (by omega) (aB (aH rfl (hk _ _ _ (by decide))))
  refine N2 (m:=m) (by omega) (by omega) (cF rfl (no λe a b he=>fail e a b he)) (λi hi=>eW (show decide ((i:Int) < 0)=false from bm (by omega)) ?_);refine aS adn rfl (gE hi) (aj (λ_=>no λe a b he=>fail e a b he) (λ_=>aB (aH rfl (eW rfl (st4 _)))))
 refine bI aiM (as4 (m:=m) (by omega) gR hg (λe a b he=>aB (aH rfl (fail e a b he))) (aB (aH rfl (eW rfl Ig))))
end
end
section
open Go Go.ax PT
def ara (m:Nat):((List.range 52).map λd:Nat=>T (m+60) 149 [.one (sC [32,32]),.one (iC (d:Int))] [])=(List.range 52).map λd=>some (.one (sC (List.replicate (2 * d) 32)),[]):=by kernel_rfl
end
section
open Go Go.ax PT
open QQ (lS strs pz X2 bN qF)
structure LN where
 d:Nat
 s:List UInt8
def uT (l:LN):List UInt8:=List.replicate (2 * l.d) 32++l.s++[10]
def iU (l:List LN):List UInt8:=l.flatMap uT
def AT (a b:List LN):iU (a++b)=iU a++iU b:=List.flatMap_append
def yE (a:LN) (b:List LN):iU (a::b)=uT a++iU b:=rfl
def uU (l:LN):(uT l).length=2 * l.d+l.s.length+1:=by simp[uT];omega
def rp {m d:Nat} (hm:60<=m) (hd:d < 52):T m 149 [.one (sC [32,32]),.one (iC (d:Int))] []=some (.one (sC (List.replicate (2 * d) 32)),[]):=by
 obtain⟨m,rfl⟩:=bl 60 m;have:=fW (λl=>l[d]?) (ara m);simp only[bQ,VO hd,fJ] at this;exact ue this
section
variable {m:Nat} {Q:V->List (List C)->Prop} {s t:List UInt8}
def si (hm:2<=m) (hl:t.length+s.length<=100000000000000) {K:Up.T->OR} (h:∀n,Wp (K ((n,true,()),bB (t++s),())) Q):Wp (dw (T m) s (bB t) K) Q:=by
 rw[dw,sj m hm s t hl,rU];exact h _
def g9 {n:Nat} (h:n<=100000000000000):n<=9223372036854775807:=by omega
def vk (hm:70<=m) {d:Nat} (hd:d < 52) (hl:t.length+s.length+2 * d+1<=100000000000000) {K:kj.T->OR} (h:Wp (K ((),bB (t++uT ⟨d,s⟩),())) Q):Wp (iq (T m) (d:Int) s (bB t) K) Q:=by
 obtain⟨m,rfl⟩:=bT hm;refine bI ahA (jk (x:=(List.replicate (2 * d) 32,())) (rp (by omega) hd) rfl ?_);refine bE (g9 (by simp;omega)) (bE (g9 (by simp;omega)) (si (m:=m) (by omega) (by simp;omega) λn=>cF rfl (aB ?_)));unfold J;rw[rV];exact h
def TxK (K:dE.T->OR) (Q:V->List (List C)->Prop) (N:Nat):Prop:=∀τ:List UInt8,NL τ->τ.length<=N->Wp (K (τ,())) Q
def EH (hm:300<=m) {b:Bool} {tm:List TM} (hT:iW tm) {z:Int} {K:dE.T->OR} (h:TxK K Q 330):Wp (ur (T m) b (tm.map bH) z K) Q:=by
 have hr:∀t∈tm.map xh,wB t:=by
  intro t ht;obtain⟨u,hu,rfl⟩:=kJ.1 ht;obtain⟨i,hi,rfl⟩:=ER hu;have g:tm[i]? = some tm[i]:=gE hi;generalize tm[i]=u at g;rcases hT i u g with hl | ⟨h0,_⟩
  ·have:=hl.2.2.2;simpa[yU,wB,xh] using this
  ·show _<=u.n/\u.n<=_;omega
 cases qu:pP (tm.map xh) z with
 | false=>
  obtain⟨m,rfl⟩:=bT hm;refine bI P1 (Vp (m:=m) (by omega) ?_);rw[qu];exact cF rfl (aB (aH rfl (h [] zw (by simp))))
 | true=>
  obtain⟨t,ok,ha,_,_⟩:=abS hr qu;rw[<-Pr] at ha;have h3:=arK hT ha;have tx:=Il ok
  have := aeR b (tm.map bH) ok ha (by omega) (n := m) (by omega) (λk hk => by
    have := Hq (x0 := b) (l := tm.map xh) z k (by omega)
    rw[qu] at this
    rw[Pr]; exact this)
  exact jk (x:=(gf t,())) this rfl (h _ tx.1 (by omega))
def Oq (K:dE.T->OR) (Q:V->List (List C)->Prop):Prop:=∀τ:List UInt8,NL τ->τ.length<=34000->τ.getLast? = some 41->Wp (K (τ,())) Q
def Iu {l:List (List UInt8)} (hm:l.length+10<=m) {b:Bool} (hl:l.length<=200) (hy:∀y∈l,y.length<=10000000) {K:dE.T->OR} (h:Wp (K (lS l,())) Q):Wp (od (T m) b (l.map aE) [44,32] K) Q:=
 aG (X2 hm b hl hy rfl) h
def WX (hm:220<=m) {b:Bool} {o:List (List UInt8)} (hl:o.length<=100) (ho:∀y∈o,NL y/\y.length<=330) {K:dE.T->OR} (h:Oq K Q) :
  Wp (od (T m) b (o.map aE) [44,32] λv4=>(aO (1+List.length v4.1) (aO (([40]++v4.1).length+1) (some ((.one (sC ([40]++v4.1++[41]))),[]))))) (J dE K Q):=by
 have hj:=GL (N:=330) λy hy=>(ho y hy).2
 refine Iu (by omega) (by omega) (λy hy=>by have:=(ho y hy).2;omega) (bE (by dsimp only;omega) (bE (by simp;omega) (aB (aH rfl (h _ ?_ ?_ ?_)))))
 ·exact eh.2 ⟨eh.2 ⟨cg,GK λy hy=>(ho y hy).1⟩,cg⟩
 ·simp;omega
 ·rw[VL];rfl
def WW (q:Nat) (hq:300<=q) {p:PC} (hT:iW p.tm) {gb:Bool} {l:List Int} (hl:l.length<=100) {K:dE.T->OR} (h:Oq K Q):∀(c i:Nat) (o:List (List UInt8)),l.length - i < c->i<=l.length->o.length=i->(∀y∈o,NL y/\y.length<=330)->
  Wp (KO (T q) q c (tP p) (o.map aE) gb (l.map bN) (ae (l.map bN).length) (i:Int)) (J dE K Q)
 | 0,i,o,hc,_,_,_=>by omega
 | c+1,i,o,hc,hi,ho,hy=>by
  refine aG amd (aj (λg1=>?_) (λ_=>az (by simp) ?_))
  ·have af:=bW g1;refine aS qF rfl (gE af) ?_;refine EH (m:=q) (by omega) hT λτ h1 h2=>az (gW (by simp;omega) (by omega)) ?_
   rw[w1 (by omega),dZ]
   have := WW q hq hT (gb := gb) hl h c (i + 1) (o ++ [τ]) (by omega) (by omega) (by simp; omega) (λy gN => by
     rw[dk] at gN
     rcases gN with gN | gN
     · exact hy y gN
     · simp at gN; subst gN; exact⟨h1, h2⟩)
   rw[eF] at this;exact this
  ·rw[dZ,pR];exact WX (by omega) (by omega) hy h
def Vf (hm:310<=m) {p:PC} (hT:iW p.tm) {gb:Bool} {l:List Int} (hl:l.length<=100) {K:dE.T->OR} (h:Oq K Q):Wp (BX (T m) p.nm p.pb (p.pm.map eG) p.tb (p.tm.map bH) p.sb (p.ss.map dA) gb (l.map bN) K) Q:=by
 obtain⟨m,rfl⟩:=bT hm;obtain⟨r,hr⟩:=bl 1 m;have e0:KN (T m) m m=KN (T m) m (r+1):=by rw[<-hr]
 refine bI ahv ?_;rw[e0];refine aG amc (aj (λg1=>?_) (λ_=>?_))
 ·have af:=bW (i:=0) g1;refine aS qF (i:=0) rfl (gE af) ?_;refine EH (m:=m) (by omega) hT λτ h1 h2=>az rfl ?_
  exact WW m (by omega) hT hl h r 1 [τ] (by omega) (by omega) rfl (λy hy=>by simp at hy;subst hy;exact⟨h1,h2⟩)
 ·exact WX (o:=[]) (by omega) (by simp) (λy hy=>by cases hy) h
end
end
section
open Go Go.ax PT
open QQ (lS pz bN qF)
section
variable {m:Nat} {Q:V->List (List C)->Prop} {K:dE.T->OR}
structure TL (a b:UInt8) (s:List UInt8):Prop where
 nl:NL s
 h:s.head? = some a
 l:s.getLast? = some b
def oL (s:List UInt8):Prop:=NL s/\s.length<=12
def jt {s:List UInt8} (h:cq s=true):oL s:=⟨(AV h).1,(AV h).2.1⟩
def TB (cs:List CR):Prop:=cs.length<=100/\∀c∈cs,c.ag.length<=100/\oL c.ro/\oL c.pc
def acp (hm:220<=m) {s:PS} (h1:oL s.nm) (h2:oL s.lb) (h3:oL s.pr) {b:Bool} {o:List (List UInt8)} (hl:o.length<=100) (ho:∀y∈o,NL y/\y.length<=34026) (h:∀τ,TL 111 59 τ->τ.length<=3500000->Wp (K (τ,())) Q) :
  Wp (od (T m) b (o.map aE) [44,32] λv4=>(aO (([111,112,101,110,32]++s.nm++[32,61,32]++s.lb++[32,97,115,32]++s.pr++[32,119,105,116,104,32]).length+List.length v4.1) (aO (([111,112,101,110,32]++s.nm++[32,61,32]++s.lb++[32,97,115,32]++s.pr++[32,119,105,116,104,32]++v4.1).length+1) (some ((.one (sC ([111,112,101,110,32]++s.nm++[32,61,32]++s.lb++[32,97,115,32]++s.pr++[32,119,105,116,104,32]++v4.1++[59]))),[]))))) (J dE K Q):=by
 have hj:=GL (N:=34026) λy hy=>(ho y hy).2
 have:=h1.2;have:=h2.2;have:=h3.2;refine Iu (by omega) (by omega) (λy hy=>by have:=(ho y hy).2;omega) (bE (by simp;omega) (bE (by simp;omega) (aB (aH rfl (h _ ⟨?_,rfl,by rw[VL];rfl⟩ ?_)))))
 ·simp only[eh];exact⟨⟨⟨⟨⟨⟨⟨⟨cg,h1.1⟩,cg⟩,h2.1⟩,cg⟩,h3.1⟩,cg⟩,GK λy hy=>(ho y hy).1⟩,cg⟩
 ·simp;omega
def aco (q:Nat) (hq:310<=q) {p:PC} (hT:iW p.tm) {c:CR} (hc:c.ag.length<=100/\oL c.ro/\oL c.pc) {F:List UInt8->OR} {Q':V->List (List C)->Prop} (h:∀y,NL y->y.length<=34026->Wp (F y) Q') :
  Wp (aO (List.length c.ro+2) (aO ((c.ro++[58,32]).length+List.length c.pc) (BX (T q) p.nm p.pb (p.pm.map eG) p.tb (p.tm.map bH) p.sb (p.ss.map dA) c.gt (c.ag.map bN) λv3=>(aO ((c.ro++[58,32]++c.pc).length+List.length v3.1) (F (c.ro++[58,32]++c.pc++v3.1)))))) Q':=by
 have:=hc.2.1.2;have:=hc.2.2.2;refine bE (by omega) (bE (by simp;omega) (Vf (by omega) hT hc.1 λτ h1 h2 _=>bE (by simp;omega) (h _ ?_ (by simp;omega))));simp only[eh];exact⟨⟨⟨hc.2.1.1,cg⟩,hc.2.2.1⟩,h1⟩
def open_1 (q:Nat) (hq:310<=q) {p:PC} (hT:iW p.tm) {s:PS} (h1:oL s.nm) (h2:oL s.lb) (h3:oL s.pr) (hc:TB s.cs) (h:∀τ,TL 111 59 τ->τ.length<=3500000->Wp (K (τ,())) Q):∀(c i:Nat) (o:List (List UInt8)),s.cs.length - i < c->i<=s.cs.length->o.length=i->(∀y∈o,NL y/\y.length<=34026)->
  Wp (Dq (T q) q c (tP p) (tS s) (o.map aE) s.ct (s.cs.map eM) (ae (s.cs.map eM).length) (i:Int)) (J dE K Q)
 | 0,i,o,cZ,_,_,_=>by omega
 | c+1,i,o,cZ,hi,ho,hy=>by
  have:=h1.2;have:=h2.2;have:=h3.2;have hl:=hc.1;refine aG amk (aj (λg1=>?_) (λ_=>?_))
  ·have af:=bW g1;refine aS (enc:=eM) (f:=λc=>(c.ro,c.pc,(c.gt,c.ag.map bN),())) (λa=>⟨by simp[eM],rfl⟩) rfl (gE af) ?_;refine aco q hq hT (hc.2 _ (bU af)) (F:=λy=>gd ((o.map aE).length==(o.map aE).length&&true&&decide (((o.map aE).length+1) * 16<=140737488355328)) (Dq (T q) q c (tP p) (tS s) (o.map aE++whole ([[D.str []]].set 0 [D.str y])) s.ct (s.cs.map eM) (ae (s.cs.map eM).length) (ak ((i:Int)+1)))) λy hn R6=>az (gW (by simp;omega) (by omega)) ?_
   rw[w1 (by omega),dZ]
   have := open_1 q hq hT h1 h2 h3 hc h c (i + 1) (o ++ [y]) (by omega) (by omega) (by simp; omega) (λy' gN => by
     rw[dk] at gN
     rcases gN with gN | gN
     · exact hy y' gN
     · simp at gN; subst gN; exact⟨hn, R6⟩)
   rw[eF] at this;exact this
  ·have e:aK (whole (o.map aE))=o.map aE:=by rw[dZ,pR]
   refine bE (by dsimp only[tS];omega) (bE (by simp[tS];omega) (bE (by simp[tS];omega) (bE (by simp[tS];omega) (bE (by simp[tS];omega) (bE (by simp[tS];omega) (az (by simp) ?_))))));rw[e];exact acp (by omega) h1 h2 h3 (by omega) hy h
def asX (hm:320<=m) {p:PC} (hT:iW p.tm) {s:PS} (h1:oL s.nm) (h2:oL s.lb) (h3:oL s.pr) (hc:TB s.cs) (h:∀τ,TL 111 59 τ->τ.length<=3500000->Wp (K (τ,())) Q) :
  Wp (Xq (T m) p.nm p.pb (p.pm.map eG) p.tb (p.tm.map bH) p.sb (p.ss.map dA) s.kd s.nm s.pr s.lb s.pc s.tm s.gt (s.ag.map bN) s.ct (s.cs.map eM) s.wb (s.ws.map cW) s.nx K) Q:=by
 obtain⟨m,rfl⟩:=bT hm;obtain⟨r,hr⟩:=bl 1 m;have e0:KR (T m) m m=KR (T m) m (r+1):=by rw[<-hr]
 have:=h1.2;have:=h2.2;have:=h3.2;have hl:=hc.1;refine bI ahB ?_;rw[e0];refine aG amj (aj (λg1=>?_) (λ_=>?_))
 ·have af:=bW (i:=0) g1;refine aS (enc:=eM) (f:=λc=>(c.ro,c.pc,(c.gt,c.ag.map bN),())) (λa=>⟨by simp[eM],rfl⟩) (i:=0) rfl (gE af) ?_;refine aco m (by omega) hT (hc.2 _ (bU af)) (F:=λy=>gd (true&&true&&true) (Dq (T m) m r (tP p) (tS s) [[.str y]] s.ct (s.cs.map eM) (ae (s.cs.map eM).length) (ak (1)))) λy hn R6=>az rfl ?_
  exact open_1 m (by omega) hT h1 h2 h3 hc h r 1 [y] (by omega) (by omega) rfl (λy' gN=>by simp at gN;subst gN;exact⟨hn,R6⟩)
 ·refine bE (by dsimp only[tS];omega) (bE (by simp[tS];omega) (bE (by simp[tS];omega) (bE (by simp[tS];omega) (bE (by simp[tS];omega) (bE (by simp[tS];omega) ?_)))));exact acp (o:=[]) (by omega) h1 h2 h3 (by simp) (λy hy=>by cases hy) h
end
end
end Go.Proofs.YtfmpdgeiodnnfaaGreatDoor
