/- A part of the proof. -/
import Derived.Test.YtfmpdgeiodnnfaaGreatDoorN10
import Derived.Test.YtfmpdgeiodnnfaaGreatDoorN4
import Derived.Test.YtfmpdgeiodnnfaaGreatDoorN1
import Derived.Test.YtfmpdgeiodnnfaaGreatDoorN9
import Derived.Test.YtfmpdgeiodnnfaaGreatDoorN3
import Derived.ChangeSame
import Derived.RowKit
import Derived.Deep.Slices
import GoSem.ClaimJoined
set_option linter.all false
set_option maxRecDepth 100000
set_option maxHeartbeats 2000000
namespace Go.Proofs.YtfmpdgeiodnnfaaGreatDoor
section
open Go Go.ax PT
open QQ (lS)
def pl (c:UInt8):Bool:=pr c||c==10
def PL (s:BB):Prop:=∀c∈s,pl c=true
def lL {a b:BB}:PL (a++b)↔PL a/\PL b:=by
 simp only[PL,dk];exact⟨λh=>⟨λc hc=>h c (.inl hc),λc hc=>h c (.inr hc)⟩,λh c hc=>hc.elim (h.1 c) (h.2 c)⟩
def vG:PL []:=λc hc=>by cases hc
def vF {l:BB} (h:l.all pl=true:=by rfl):PL l:=λc hc=>gY.1 h c hc
def NL.pl {s:BB} (h:NL s):PL s:=λc hc=>by unfold Go.Proofs.YtfmpdgeiodnnfaaGreatDoor.pl;rw[h c hc];rfl
def Ya {x:BB} (h:qX [] x=true):NL x/\x.length<=25:=by
 rcases KA x with⟨_,e⟩ | ⟨i,hi,hl,e⟩
 ·have:=AV (show cq x=true by have:=e [];rw[h] at this;exact this.symm);exact⟨this.1,by omega⟩
 ·have h2:=(e []).symm;rw[h,cI] at h2;have a:=AV h2.1;have b:=AV h2.2;have c:x[i]? = some 46:=(Lib.indexByte_some (o:=i) hi).1;have hx:x=x.take i++([46]++x.drop (i+1)):=by
   have h3:x.drop i=x[i]::x.drop (i+1):=ku hl;rw[gE hl] at c;rw[ue c] at h3;rw[List.singleton_append,<-h3,VJ]
  have hlen:=fW List.length hx;simp only[fH,jl,mL] at hlen;refine⟨?_,by have:=a.2.1;have:=b.2.1;simp only[zr] at *;omega⟩;rw[hx];exact eh.2 ⟨a.1,eh.2 ⟨cg,b.1⟩⟩
def B8 (k:Int) (x:BB):BB:=bif k==0 then[117,110,105,116] else bif k==1 then[105,110,116] else bif k==2 then[98,111,111,108] else bif k==3 then[116,101,120,116] else bif k==4 then[108,105,115,116] else[99,104,97,110,32]++x
def agO {k:Int} {x:BB} (h:oe k x=true):NL (B8 k x)/\(B8 k x).length<=30:=by
 unfold oe at h;unfold B8;by_cases h5:k=5
 ·subst h5;have:=Ya h;exact⟨eh.2 ⟨cg,this.1⟩,by show ([99,104,97,110,32]++x).length<=30;simp;omega⟩
 ·rw[lI.2 h5,cond_false] at h;simp only[cI,gX] at h;have:k=0\/k=1\/k=2\/k=3\/k=4:=by omega
  rcases this with rfl | rfl | rfl | rfl | rfl<;>exact⟨cg,VI rfl⟩
def smB (o:OR):Bool:=match o with
 | some (.one (.d (.str s)),[])=>s.all pr&&(decide (1<=s.length)&&decide (s.length<=2))
 | _=>false
def arL (m:Nat):((List.range 64).all λk=>smB (T (m+40) 57 [.one (iC (k:Int))] []))=true:=by kernel_rfl
section
variable {m M:Nat} {Q:V->List (List C)->Prop} {b b2:Bool}
def arM (hm:40<=m) {k:Nat} (hk:k < 64):∃s,T m 57 [.one (iC (k:Int))] []=some (.one (sC s),[])/\NL s/\1<=s.length/\s.length<=2:=by
 obtain⟨m,rfl⟩:=bl 40 m;have h:=gY.1 (arL m) k (vu.2 hk);unfold smB at h;split at h
 ·rename_i s e;simp only[cI,gX] at h;exact⟨s,e,λc hc=>gY.1 h.1 c hc,h.2.1,h.2.2⟩
 ·cases h
def Vi (hm:40<=m) {k:Nat} (hk:k < 64) {K:dE.T->OR} (h:∀s,NL s->1<=s.length->s.length<=2->Wp (K (s,())) Q):Wp (B3 (T m) (k:Int) K) Q:=by
 obtain⟨s,e,h1,h2,h3⟩:=arM hm hk;exact jk e rfl (h s h1 h2 h3)
def agR {k:Int} {x:BB} (h:oe k x=true):x.length<=25:=by
 unfold oe at h;by_cases h5:k=5
 ·subst h5;exact(Ya h).2
 ·rw[lI.2 h5,cond_false] at h;simp only[cI,kv] at h;rw[h.2];simp
def aqk (hm:700<=m) {k:Int} {x:BB} (h:oe k x=true):T m 17 [.agg [iC k,sC x]] []=some (.one (sC (B8 k x)),[]):=by
 obtain⟨m,rfl⟩:=bl 1 m;have hx:=agR h
 have e := NO (m := m) (M := 400) (b := false) (nm := []) (l := [⟨2, [120], false, [⟨[120], k, x, 0⟩]⟩]) (by omega) (λt ht => by
   rw[pd.1 ht]
   exact⟨by simp, by simp, λa ha => by rw[pd.1 ha]; exact⟨by show x.length + 200 <= 400; omega, by show x.length <= _; omega⟩⟩)
 have ht:tU [⟨2,[120],false,[⟨[120],k,x,0⟩]⟩]=true:=by
  have:vH ((1:Nat):Int) ⟨[120],k,x,0⟩=true:=by
   unfold vH;rw[show oe k x=true from h];rfl
  simp only[tU,jl,mL,vw,Om,sd,sD,uk,cQ,this];rfl
 rw[ht] at e;refine ahs _ (iM e (bj rfl ?_));unfold B8;cases k==(0:Int) with
 | true=>rfl
 | false=>
 cases k==(1:Int) with
 | true=>rfl
 | false=>
 cases k==(2:Int) with
 | true=>rfl
 | false=>
 cases k==(3:Int) with
 | true=>rfl
 | false=>
 cases k==(4:Int) with
 | true=>rfl
 | false=>exact bj rfl (bj rfl (bj rfl (bj rfl (bj rfl (akx (by omega) rfl)))))
def asW (hm:700<=m) {k:Int} {x:BB} (h:oe k x=true) {K:dE.T->OR} (h2:Wp (K (B8 k x,())) Q):Wp (xD (T m) k x K) Q:=jk (aqk hm h) rfl h2
def ON {P:Int}:∀{l:List RA} {met:List BB},uk P met l=true->∀a∈l,vH P a=true
 | [],_,_,a,ha=>by cases ha
 | x::t,met,h,a,ha=>by
  simp only[uk,cI] at h;rcases ik.1 ha with rfl | ha
  ·exact h.1.2
  ·exact ON h.2 a ha
def adq:∀a:RA,0+4<=(eH a).length/\dI Bf (List.take 4 (List.drop 0 (eH a)))=some ((λa=>(a.eK,a.kd,a.nm,a.nx,())) a):=λa=>⟨by simp[eH],rfl⟩
def afd (hm:700<=m) {P:Nat} (hP:P<=64) {a:RA} (ha:vH (P:Int) a=true) {F:BB->OR} (h:∀y,NL y->1<=y.length->y.length<=60->Wp (F y) Q) :
  Wp (aO (List.length a.eK+1) (xD (T m) a.kd a.nm λv3=>aO ((a.eK++[40]).length+List.length v3.1) (aO ((a.eK++[40]++v3.1).length+2) (B3 (T m) a.nx λv4=>aO ((a.eK++[40]++v3.1++[41,32]).length+List.length v4.1) (F (a.eK++[40]++v3.1++[41,32]++v4.1)))))) Q:=by
 simp only[vH,cI,gX] at ha;have hn:=jt ha.1;have pI:=hn.2;have hc:=agO ha.2.1;have gG:=hc.2;obtain⟨k,hk⟩:∃k:Nat,a.nx=(k:Int):=⟨a.nx.toNat,by omega⟩
 rw[hk];refine bE (by omega) (asW hm ha.2.1 (bE (by simp;omega) (bE (by simp;omega) (Vi (by omega) (by omega) λs s1 s2 s3=>bE (by simp;omega) (h _ ?_ (by simp;omega) (by simp;omega))))));simp only[eh];exact⟨⟨⟨⟨hn.1,cg⟩,hc.1⟩,cg⟩,s1⟩
def acA (hm:700<=m) {bb:Bool} {o:List BB} (ho:∀y∈o,NL y/\y.length<=60) (hl:o.length<=6) {K:dE.T->OR} (h:∀s,NL s->s.length<=500->Wp (K (s,())) Q) :
  Wp (od (T m) bb (o.map aE) [44,32] λv5=>aO (3+List.length v5.1) (aO (([32,123,32]++v5.1).length+2) (some (.one (sC ([32,123,32]++v5.1++[32,125])),[])))) (J dE K Q):=by
 have hj:=GL (N:=60) λy hy=>(ho y hy).2
 have:(60+2) * o.length<=(60+2) * 6:=IN _ hl;refine Iu (by omega) (by omega) (λy hy=>by have:=(ho y hy).2;omega) (bE (by dsimp only;omega) (bE (by simp;omega) (aB (aH rfl (h _ ?_ ?_)))))
 ·exact eh.2 ⟨eh.2 ⟨cg,GK λy hy=>(ho y hy).1⟩,cg⟩
 ·simp;omega
def acB (q:Nat) (hq:700<=q) {P:Nat} (hP:P<=64) {l:List RA} (hl:l.length<=6) (bh:∀a∈l,vH (P:Int) a=true) {K:dE.T->OR} (h:∀s,NL s->s.length<=500->Wp (K (s,())) Q):∀(c i:Nat) (o:List BB),l.length - i < c->i<=l.length->o.length=i->(∀y∈o,NL y/\y.length<=60)->
  Wp (Dn (T q) q c (o.map aE) b (l.map eH) (ae (l.map eH).length) (i:Int)) (J dE K Q)
 | 0,i,o,hc,_,_,_=>by omega
 | c+1,i,o,hc,hi,ho,hy=>by
  refine aG amf (aj (λg1=>?_) (λg1=>az (by simp) ?_))
  ·have af:=bW g1;refine aS adq rfl (gE af) ?_;refine afd (m:=q) hq hP (bh _ (bU af)) (F:=λy=>gd ((o.map aE).length==(o.map aE).length&&true&&decide (((o.map aE).length+1) * 16<=140737488355328)) (Dn (T q) q c (o.map aE++whole ([[D.str []]].set 0 [D.str y])) b (l.map eH) (ae (l.map eH).length) (ak ((i:Int)+1)))) λy h1 h2 h3=>az (gW (by simp;omega) (by omega)) ?_
   rw[wI i,dZ]
   have := acB q hq hP hl bh h c (i + 1) (o ++ [y]) (by omega) (by omega) (by simp; omega) (λz hz => by
     rw[dk] at hz
     rcases hz with hz | hz
     · exact hy z hz
     · rw[pd.1 hz]; exact⟨h1, h3⟩)
   rw[eF] at this;exact this
  ·rw[dZ,pR];exact acA (m:=q) hq hy (by omega) h
def afr (hm:710<=m) {P:Nat} (hP:P<=64) {l:List RA} (bh:sD (P:Int) l=true) {K:dE.T->OR} (h:∀s,NL s->s.length<=500->Wp (K (s,())) Q):Wp (xE (T m) b (l.map eH) K) Q:=by
 obtain⟨m,rfl⟩:=bT (show 1<=m by omega);obtain⟨r,hr⟩:=bl 1 m;simp only[sD,cI,gX] at bh;have e0:KP (T m) m m=KP (T m) m (r+1):=by rw[<-hr]
 refine bI ahw ?_;rw[e0];refine aG ame (aj (λg1=>?_) (λg1=>?_))
 ·have af:=bW (i:=0) g1;refine aS adq (i:=0) rfl (gE af) ?_;refine afd (m:=m) (by omega) hP (ON bh.2 _ (bU af)) (F:=λy=>gd (true&&true&&true) (Dn (T m) m r [[.str y]] b (l.map eH) (ae (l.map eH).length) (ak (1)))) λy h1 h2 h3=>az rfl ?_
  exact acB m (by omega) hP bh.1.2 (ON bh.2) h r 1 [y] (by omega) (by omega) rfl λz hz=>by rw[pd.1 hz];exact⟨h1,h3⟩
 ·exact acA (m:=m) (o:=[]) (by omega) (λy hy=>by cases hy) (by simp) h
end
end
section
open Go Go.ax PT
open QQ (lS)
def aqM:∀a:RP,0+3<=(gI a).length/\dI kE (List.take 3 (List.drop 0 (gI a)))=some ((λp=>(p.fr,p.to,(p.t,p.ms.map eH),())) a):=λa=>⟨by simp[gI],rfl⟩
def aqN:∀a:RT,0+3<=(gJ a).length/\dI ji (List.take 3 (List.drop 0 (gJ a)))=some ((λp=>(p.kd,p.pr,(p.t,p.ms.map eH),())) a):=λa=>⟨by simp[gJ],rfl⟩
section
variable {m M:Nat} {Q:V->List (List C)->Prop} {b b2:Bool}
def afj (hm:3<=m) {t:BB} (ht:t≠[]) (hl:t.length<=10000000) {K:dE.T->OR} (h:Wp (K (t,())) Q):Wp (c37 (T m) (bB t) λv=>some (.one (sC v.1),[])) (J dE K Q):=by
 have st:=NH m (by omega) t ht (by omega);exact aG (show c37 (T m) (bB t) _=_ by rw[c37,st,Ui]) (aB (aH rfl h))
def ac7 (q:Nat) (hq:800<=q) {rs:List BB} (kU:rs.all cq=true) {l:List RP} (hl:l.length<=24) (bh:∀p∈l,pT rs (l.length:Int) p=true) {K:dE.T->OR} (h:∀s,PL s->s≠[]->s.length<=40000->Wp (K (s,())) Q):∀(c i:Nat) (t:BB),l.length - i < c->i<=l.length->t≠[]->PL t->t.length<=400+600 * i->
  Wp (qy (T q) q c (bB t) b (l.map gI) (ae (l.map gI).length) (i:Int)) (J dE K Q)
 | 0,i,t,hc,_,_,_,_=>by omega
 | c+1,i,t,hc,hi,aD,di,s8=>by
  refine aG amb (aj (λg1=>?_) (λg1=>?_))
  ·have af:=bW g1;have hp:=bh _ (bU af);refine aS aqM rfl (gE af) ?_;dsimp only;generalize l[i]=p at hp ⊢;have en:∀t',t'≠[]->PL t'->t'.length<=400+600 * (i+1)->Wp (qy (T q) q c (bB t') b (l.map gI) (ae (l.map gI).length) (ak ((i:Int)+1))) (J dE K Q):=by
    intro t' h1 h2 h3;rw[wI i];exact ac7 q hq kU hl bh h c (i+1) t' (by omega) (by omega) h1 h2 h3
   refine Vi (m:=q) (by omega) (by omega) λs s1 s2 s3=>bE (by dsimp only;omega) (bE (by simp;omega) (si (m:=q) (by omega) (by simp;omega) λn=>cF rfl ?_))
   dsimp only;have Au:PL (t++([32,32]++s++[58,32])):=lL.2 ⟨di,(eh.2 ⟨eh.2 ⟨cg,s1⟩,cg⟩).pl⟩;refine aj (λg2=>?_) (λg2=>?_)
   ·refine si (m:=q) (by omega) (by simp;omega) λn=>cF rfl (en _ (by simp) (lL.2 ⟨Au,vF⟩) (by simp;omega))
   ·have he:jc p=false:=by
     unfold jc;have:p.ms.isEmpty=false:=by
      cases h:p.ms with
      | nil=>rw[h] at g2;cases g2
      | cons=>rfl
     rw[this];simp
    unfold pT at hp;rw[he,xo] at hp;simp only[cI,List.contains_eq_mem,gX] at hp;have hf:=jt (gY.1 kU _ hp.1);have ht:=jt (gY.1 kU _ hp.2.1);have F0:=hf.2;have ht2:=ht.2;refine bE (by first | omega | (dsimp only;omega)) (bE (by simp;omega) (afr (m:=q) (by omega) (show l.length<=64 by omega) hp.2.2.2 λy y1 y2=>bE (by simp;omega) (bE (by simp;omega) (si (m:=q) (by omega) (by simp;omega) λn=>cF rfl (en _ (by simp) (lL.2 ⟨Au,?_⟩) (by simp;omega))))));exact lL.2 ⟨(eh.2 ⟨eh.2 ⟨eh.2 ⟨hf.1,cg⟩,ht.1⟩,y1⟩).pl,vF⟩
  ·refine si (m:=q) (by omega) (by simp;omega) λn=>cF rfl ?_
   exact afj (m:=q) (by omega) (by simp) (by simp;omega) (h _ (lL.2 ⟨di,vF⟩) (by simp) (by simp;omega))
def afv (hM:M+2000<=m) {nm:BB} {rs:List BB} {l:List RP} (hw:∀p∈l,wM M p.ms) {K:dE.T->OR} (h:∀s,PL s->s.length<=40000->(s==[]) = !wU nm rs l->Wp (K (s,())) Q):Wp (Ja (T m) nm b2 (rs.map aE) b (l.map gI) K) Q:=by
 obtain⟨m,rfl⟩:=bT (show 1<=m by omega);refine bI ahu (jk (Zv (m:=m) (by omega) hw) rfl ?_);dsimp only;cases hB:wU nm rs l with
 | false=>exact cF rfl (aB (aH rfl (h [] vG (by simp) (by rw[hB];rfl))))
 | true=>
  refine eW rfl ?_;have dH:=hB;unfold wU at hB;simp only[cI,gX] at hB;obtain⟨n1,r2,r5,_,l1,l24,ra,pa⟩:=hB;have hn:=jt n1;have pI:=hn.2;have ry:∀y∈rs,NL y/\y.length<=12:=λy hy=>jt (gY.1 ra y hy)
  have hj:=GL (N:=12) λy hy=>(ry y hy).2
  have:(12+2) * rs.length<=(12+2) * 5:=IN _ r5;refine bE (by first | omega | (simp;omega)) (bE (by simp;omega) (Iu (by omega) (by omega) (λy hy=>by have:=(ry y hy).2;omega) (bE (by simp;omega) (bE (by simp;omega) ?_))));refine si (m:=m) (t:=[]) (by omega) (by simp;omega) λn=>cF rfl ?_
  refine ac7 m (by omega) ra l24 (λp hp=>gY.1 pa p hp) (λs s1 s2 s3=>h s s1 s3 ?_) m 0 _ (by omega) (by omega) (by simp) ?_ (by simp;omega)
  ·rw[dH];exact lI.2 s2
  ·have:=(eh.2 ⟨eh.2 ⟨eh.2 ⟨cg (l:=[112,114,111,116,111,99,111,108,32]),hn.1⟩,cg (l:=[32,114,111,108,101,115,32])⟩,GK λy hy=>(ry y hy).1⟩).pl;exact lL.2 ⟨vG,lL.2 ⟨this,vF⟩⟩
def aeV (q:Nat) (hq:800<=q) {l:List RT} (hl:l.length<=40) (bh:∀p∈l,sd (l.length:Int) p=true) {K:dE.T->OR} (h:∀s,PL s->s.length<=40000->Wp (K (s,())) Q):∀(c i:Nat) (t:BB),l.length - i < c->i<=l.length->t≠[]->PL t->t.length<=400+600 * i->
  Wp (kX (T q) q c (bB t) b (l.map gJ) (ae (l.map gJ).length) (i:Int)) (J dE K Q)
 | 0,i,t,hc,_,_,_,_=>by omega
 | c+1,i,t,hc,hi,aD,di,s8=>by
  refine aG al' (aj (λg1=>?_) (λg1=>?_))
  ·have af:=bW g1;have hp:=bh _ (bU af);refine aS aqN rfl (gE af) ?_;dsimp only;generalize l[i]=p at hp ⊢;have en:∀t',t'≠[]->PL t'->t'.length<=400+600 * (i+1)->Wp (kX (T q) q c (bB t') b (l.map gJ) (ae (l.map gJ).length) (ak ((i:Int)+1))) (J dE K Q):=by
    intro t' h1 h2 h3;rw[wI i];exact aeV q hq hl bh h c (i+1) t' (by omega) (by omega) h1 h2 h3
   refine Vi (m:=q) (by omega) (by omega) λs s1 s2 s3=>bE (by dsimp only;omega) (bE (by simp;omega) (si (m:=q) (by omega) (by simp;omega) λn=>cF rfl ?_))
   dsimp only;have Au:PL (t++([32,32]++s++[58,32])):=lL.2 ⟨di,(eh.2 ⟨eh.2 ⟨cg,s1⟩,cg⟩).pl⟩;unfold sd at hp;refine aj (λg2=>?_) (λg2=>?_)
   ·refine si (m:=q) (by omega) (by simp;omega) λn=>cF rfl (en _ (by simp) (lL.2 ⟨Au,vF⟩) (by simp;omega))
   ·rw[g2,cond_false] at hp;have arm:∀{x:BB},(p.kd==1||p.kd==2)=true->NL x->x.length<=10->Wp (aO (x.length+List.length p.pr) (xE (T q) p.t (p.ms.map eH) λv9=>aO ((x++p.pr).length+List.length v9.1) (aO ((x++p.pr++v9.1).length+1) (dw (T q) (x++p.pr++v9.1++[10]) (bB (t++([32,32]++s++[58,32]))) λv10=>(bif v10.1.2.1 then kX (T q) q c v10.2.1 b (l.map gJ) (ae (l.map gJ).length) (ak ((i:Int)+1)) else kX (T q) q c v10.2.1 b (l.map gJ) (ae (l.map gJ).length) (ak ((i:Int)+1))))))) (J dE K Q):=by
     intro x hk x1 x2;rw[hk,ua,cI] at hp;have hf:=jt hp.1;have F0:=hf.2;refine bE (by omega) (afr (m:=q) (by omega) (show l.length<=64 by omega) hp.2 λy y1 y2=>bE (by simp;omega) (bE (by simp;omega) (si (m:=q) (by omega) (by simp;omega) λn=>cF rfl (en _ (by simp) (lL.2 ⟨Au,?_⟩) (by simp;omega)))));exact lL.2 ⟨(eh.2 ⟨eh.2 ⟨x1,hf.1⟩,y1⟩).pl,vF⟩
    refine aj (λg3=>?_) (λg3=>aj (λg4=>?_) (λg4=>?_))
    ·exact arm (x:=[116,111,32]) (by rw[g3];rfl) cg (by decide)
    ·exact arm (x:=[102,114,111,109,32]) (by rw[g4];simp) cg (by decide)
    ·rw[g3,g4] at hp;cases hp
  ·refine si (m:=q) (by omega) (by simp;omega) λn=>cF rfl ?_
   exact afj (m:=q) (by omega) (by simp) (by simp;omega) (h _ (lL.2 ⟨di,vF⟩) (by simp;omega))
def asT (hM:M+2000<=m) {nm:BB} {l:List RT} (hw:∀t∈l,wM M t.ms) {K:dE.T->OR} (h:∀s,PL s->s.length<=40000->Wp (K (s,())) Q):Wp (c21 (T m) nm b (l.map gJ) K) Q:=by
 obtain⟨m,rfl⟩:=bT (show 1<=m by omega);refine bI aht (jk (NO (m:=m) (M:=M) (by omega) hw) rfl ?_);dsimp only;cases hB:tU l with
 | false=>exact cF rfl (aB (aH rfl (h [] vG (by simp))))
 | true=>
  refine eW rfl (ig (m:=m) (by omega) ?_);dsimp only;cases hn:cq nm with
  | false=>exact cF rfl (aB (aH rfl (h [] vG (by simp))))
  | true=>
   have hn:=jt hn;have pI:=hn.2;unfold tU at hB;simp only[cI,gX] at hB;obtain⟨r,hr⟩:=bl 1 m;have e1:KL (T m) m m=KL (T m) m (r+1):=by rw[<-hr]
   refine eW rfl ?_;rw[e1];refine aG ama (bE (by dsimp only;omega) (bE (by simp;omega) ?_));refine si (m:=m) (t:=[]) (by omega) (by simp;omega) λn=>cF rfl ?_
   refine aeV m (by omega) hB.2.1 (λp hp=>gY.1 hB.2.2 p hp) h m 0 _ (by omega) (by omega) (by simp) ?_ (by simp;omega);exact lL.2 ⟨vG,lL.2 ⟨(eh.2 ⟨cg (l:=[108,111,99,97,108,32]),hn.1⟩).pl,vF⟩⟩
end
end
section
open Go Go.ax PT
section
variable {m:Nat} {Q:V->List (List C)->Prop}
def acX (q:Nat) {s:BB} (hs:PL s) (hl:s.length<=1900000000000):∀(c i:Nat),s.length - i < c->i<=s.length->Dr (T q) q c s (i:Int)=some (.one (bC true),[])
 | 0,i,hc,_=>by omega
 | c+1,i,hc,hi=>by
  rw[amo];by_cases h:i < s.length
  ·have hg:s[i]? = some s[i]:=gE h;have hp:=hs _ (bU h);have nx:Dr (T q) q c s (ak ((i:Int)+1))=some (.one (bC true),[]):=by
    rw[wI i];exact acX q hs hl c (i+1) (by omega) (by omega)
   refine dz (aM (by rw[cm];omega)) (qo (qd rfl) (qo hg ?_));by_cases cz:s[i].toNat=10
   ·exact bj (by rw[cm,cz];rfl) nx
   ·have hb:32<=s[i].toNat/\s[i].toNat<=126:=by
     simp only[pl,pr,IG,cI,gX,kv] at hp;rcases hp with hp | hp
     ·exact hp
     ·rw[hp] at cz;exact absurd rfl cz
    refine dz (by rw[cm];simp;omega) (qo (qd rfl) (qo hg (bj (bm (by rw[cm];omega)) (qo (qd rfl) (qo hg (bj (bm (by rw[cm];omega)) nx))))))
  ·exact bj (bm (by rw[cm];omega)) rfl
def N1 (hm:1900000000002<=m) {s:BB} (hs:PL s) (hl:s.length<=1900000000000) {K:bu.T->OR} (h:Wp (K (true,())) Q):Wp (c24 (T m) s K) Q:=by
 obtain⟨m,rfl⟩:=bT (show 1<=m by omega);exact jk (ahG _ (acX m hs hl m 0 (by omega) (by omega))) rfl h
def abz:∀{ls:List LN},(∀l∈ls,NL l.s)->PL (iU ls)
 | [],_=>vG
 | l::t,h=>by
  rw[yE];refine lL.2 ⟨?_,abz λx hx=>h x (jC _ hx)⟩;unfold uT;refine lL.2 ⟨lL.2 ⟨λc hc=>?_,(h l jD).pl⟩,vF⟩;rw[afY hc];decide
end
end
section
open Go Go.ax PT
open QQ (lS pz bN qF)
def step1 (o:Int) (l:LN):Option Int:=
 let o1:=if l.s.head? = some 125 then o - 1 else o
 if(l.d:Int)=o1 then some (if l.s.getLast? = some 123 then o1+1 else o1) else none
def run:Int->List LN->Option Int
 | o,[]=>some o
 | o,l::t=>(step1 o l).bind λo'=>run o' t
def adW:∀{o:Int} (a b:List LN),run o (a++b)=(run o a).bind λo'=>run o' b
 | o,[],b=>rfl
 | o,l::t,b=>by
  show (step1 o l).bind _=((step1 o l).bind _).bind _;cases step1 o l with
  | none=>rfl
  | some o'=>exact adW t b
def okL (l:LN):Prop:=NL l.s/\∃a,l.s.head? = some a/\a≠32
structure gQ (e:Nat) (o o':Int) (n:Nat) (ls:List LN):Prop where
 ok:∀l∈ls,okL l/\e<=l.d
 run:run o ls=some o'
 len:ls.length=n
 sz:(iU ls).length<=4000000 * n
def gQ.app {e:Nat} {o o' fm:Int} {n n':Nat} {a b:List LN} (h:gQ e o o' n a) (h':gQ e o' fm n' b):gQ e o fm (n+n') (a++b):=by
 refine⟨λl hl=>(dk.1 hl).elim (h.ok l) (h'.ok l),by rw[adW,h.run];exact h'.run,by rw[fH,h.len,h'.len],?_⟩;have:=h.sz;have:=h'.sz;rw[AT,fH];omega
def gQ.deep {e e':Nat} {o o':Int} {n:Nat} {a:List LN} (h:gQ e o o' n a) (he:e'<=e):gQ e' o o' n a:=⟨λl hl=>⟨(h.ok l hl).1,iD he (h.ok l hl).2⟩,h.run,h.len,h.sz⟩
def gQ.nil {e:Nat} {o:Int}:gQ e o o 0 []:=⟨(λl hl=>by cases hl),rfl,rfl,EK _⟩
def gQ.one {e d:Nat} {o o':Int} {a b:UInt8} {s:List UInt8} (h:TL a b s) (ha:a≠32) (hd:e<=d) (h6:d<=60) (hl:s.length<=3600000) (hr:step1 o ⟨d,s⟩=some o'):gQ e o o' 1 [⟨d,s⟩]:=by
 refine⟨λl hl=>?_,by show (step1 o ⟨d,s⟩).bind _=_;rw[hr];rfl,rfl,?_⟩
 ·rw[pd.1 hl];exact⟨⟨h.nl,a,h.h,ha⟩,hd⟩
 ·rw[yE,fH,uU];simp only[iU,List.flatMap_nil,mL];omega
def arY {d:Nat} {a b:UInt8} {s:List UInt8} (h:TL a b s) (ha:a≠125) (hb:b≠123):step1 d ⟨d,s⟩=some d:=by simp[step1,h.h,h.l,ha,hb]
def NF {d:Nat} {a:UInt8} {s:List UInt8} (h:TL a 123 s) (ha:a≠125):step1 d ⟨d,s⟩=some (d+1:Nat):=by simp[step1,h.h,h.l,ha]
def arW {d:Nat}:step1 (d+1:Nat) ⟨d,[125,32,101,108,115,101,32,123]⟩=some (d+1:Nat):=by simp[step1]
def ND {d:Nat}:step1 (d+1:Nat) ⟨d,[125]⟩=some d:=by simp[step1]
def tl {x y:List UInt8} {a b:UInt8} (hn:NL (x++y)) (hh:(x++y).head? = some a) (hl:y.getLast? = some b):TL a b (x++y):=⟨hn,hh,by rw[VL,hl];rfl⟩
def NM:TL 125 125 [125]:=⟨cg,rfl,rfl⟩
def asa:TL 125 123 [125,32,101,108,115,101,32,123]:=⟨cg,rfl,rfl⟩
def lF (s:PS):Nat:=if s.kd=3 then 3 else if s.kd=5 then 2+2 * s.ws.length else 1
section
variable {m:Nat} {Q:V->List (List C)->Prop} {p:PC} {W D:Nat->Nat}
def Ot (m:Nat) (p:PC) (W D:Nat->Nat) (k:Nat) (s:PS):Prop:=∀(d:Nat) (t:List UInt8) (K:kj.T->OR) (Q:V->List (List C)->Prop),d+2 * inc s<=3+2 * D k->t.length+4000000 * W k<=100000000000000->(∀ls,gQ d d d (W k) ls->Wp (K ((),bB (t++iU ls),())) Q)->
 Wp (c93 (T m) p.nm p.pb (p.pm.map eG) p.tb (p.tm.map bH) p.sb (p.ss.map dA) (k:Int) (d:Int) (bB t) K) Q
structure BG (m:Nat) (p:PC) (W D:Nat->Nat) (n:Nat) (s:PS):Prop where
 hm:1000<=m
 ok:jN p
 hs:p.ss[n]? = some s
 f:vB s
 e:∀t∈bq s,∃(k:Nat) (s':PS),t=(k:Int)/\p.ss[k]? = some s'/\Ot m p W D k s'/\D k=D n+inc s'
 w:W n=lF s+((bq s).map λz=>W z.toNat).sum
 d:D n<=24
def OX {n:Nat} {s:PS} (g:BG m p W D n s) {d:Nat} (hd:d+2 * inc s<=3+2 * D n) {t:List UInt8} (ht:t.length+4000000 * W n<=100000000000000) {K:kj.T->OR} {x9:aq bp} (h:∀ls,gQ d d d (W n) ls->Wp (K ((),bB (t++iU ls),())) Q)
  {Ho:List LN} {n0:Nat} (h0:gQ d d d n0 Ho) (hn:if kO s.kd then n0=lF s else n0=W n):Wp (lT (T m) m x9 m (d:Int) (bB (t++iU Ho)) (tP p) (tS s)) (J kj K Q):=by
 have hm:=g.hm;obtain⟨r,hr⟩:=bl 1 m;have e0:lT (T m) m x9 m=lT (T m) m x9 (r+1):=by rw[<-hr]
 rw[e0];refine aG ami ?_;cases hg:kO s.kd with
 | false=>
  rw[hg] at hn;have hx:=g.f.ng hg;rw[show W n=n0 by simpa using hn.symm] at h;refine eW (bm (show ¬ s.nx>=0 by omega)) (aB ?_);unfold J;rw[rV];exact h Ho h0
 | true=>
  rw[hg] at hn;have s7:n0=lF s:=by simpa using hn
  have ru:bq s=[s.nx]:=by unfold bq;rw[aP hg]
  obtain⟨k,s',hk,oD,bk,hD⟩:=g.e s.nx (by rw[ru];simp);have hw:=g.w;rw[ru,hk] at hw;simp only[e9,vy,zt,Wg,mN,V0] at hw;have h3:=h0.sz;refine cF (aM (show s.nx>=0 by omega)) ?_;show Wp (c93 (T m) p.nm p.pb (p.pm.map eG) p.tb (p.tm.map bH) p.sb (p.ss.map dA) s.nx (d:Int) (bB (t++iU Ho)) _) _;rw[hk];refine bk d _ _ _ (by omega) (by rw[fH];omega) λls lR=>aB ?_
  unfold J;rw[rV];have:=h (Ho++ls) (by rw[hw,<-s7];exact h0.app lR);rw[AT,<-fI] at this;exact this
def ags {n:Nat} {s:PS} (g:BG m p W D n s) {d:Nat} (hd:d+2 * inc s<=3+2 * D n) {t:List UInt8} (ht:t.length+4000000 * W n<=100000000000000) {K:kj.T->OR} {x9:aq bp} (h:∀ls,gQ d d d (W n) ls->Wp (K ((),bB (t++iU ls),())) Q)
  (hk:s.kd≠3/\s.kd≠5) {τ:List UInt8} {a b:UInt8} (hτ:TL a b τ) (ha:a≠32/\a≠125) (hb:b≠123) (hl:τ.length<=3600000):Wp (iq (T m) (d:Int) τ (bB t) λv=>lT (T m) m x9 m (d:Int) v.2.1 (tP p) (tS s)) (J kj K Q):=by
 have hD:=g.d;have hm:=g.hm;have hw:=g.w;have ho:lF s=1:=by unfold lF;rw[aI hk.1,aI hk.2]
 refine vk (m:=m) (by omega) (by omega) (by omega) ?_
 have := OX g hd ht (x9 := x9) h (gQ.one hτ ha.1 (cp d) (by omega) hl (arY hτ ha.2 hb)) (by
   cases hg : kO s.kd with
   | true => rw[aP rfl, ho]
   | false =>
     have : bq s = [] := by unfold bq; rw[aI (by rw[hg]; simp), g.f.go hk.1 hk.2]; rfl
     rw[this] at hw
     simp at hw
     rw[aI (by simp), hw, ho])
 rw[yE,show iU []=[] from rfl,oa] at this;exact this
def Xb {n:Nat} {s:PS} (g:BG m p W D n s) (hk:s.kd=5) {d:Nat} (hd:d+2 * inc s<=3+2 * D n) {K:kj.T->OR} {x9:aq bp}:∀(c i:Nat) (t:List UInt8),s.ws.length - i < c->i<=s.ws.length->
  t.length+4000000 * (1+2 * (s.ws.length - i)+(((bq s).drop i).map λz=>W z.toNat).sum)<=100000000000000->
  (∀ls,gQ d (d+1:Nat) d (1+2 * (s.ws.length - i)+(((bq s).drop i).map λz=>W z.toNat).sum) ls->Wp (lT (T m) m x9 m (d:Int) (bB (t++iU ls)) (tP p) (tS s)) (J kj K Q))->
  Wp (KQ (T m) m x9 c (d:Int) (bB t) (tP p) (tS s) s.wb (s.ws.map cW) (ae (s.ws.map cW).length) (i:Int)) (J kj K Q)
 | 0,i,t,hc,_,_,_=>by omega
 | c+1,i,t,hc,hi,hl,h=>by
  have hD:=g.d;have hm:=g.hm;have Z0:inc s=1:=by unfold inc;rw[aP (.inr hk)]
  have ru:bq s=s.ws.map WR.nx:=by unfold bq;rw[aI (by rw[hk];decide)]
  have hwl:=(g.ok.s2 s (ff g.hs)).2.2.2;refine aG amg (aj (λg1=>?_) (λg1=>?_))
  ·have af:=bW g1;have hg:s.ws[i]? = some s.ws[i]:=gE af;have hof:=(g.f.h1 hk).2 _ (bU af);have FY:(bq s).drop i=s.ws[i].nx::(bq s).drop (i+1):=by
    rw[ru,ku (by simpa using af)];simp
   obtain⟨k,s',iH,oD,bk,hDk⟩:=g.e s.ws[i].nx (by rw[ru];exact List.mem_map_of_mem (bU af));rw[FY] at hl h;simp only[e9,zt] at hl h;rw[iH,V0] at hl h;obtain⟨r,hr⟩:=bl 1 m;have e0:Dp (T m) m x9 c m=Dp (T m) m x9 c (r+1):=by rw[<-hr]
   have wd:∀j:Nat,j<=10->ak ((d:Int)+(j:Nat))=((d+j:Nat):Int):=λj hj=>iP
   have rest:∀τ a,TL a 123 τ->a≠32->a≠125->τ.length<=100->Wp (iq (T m) (ak ((d:Int)+1)) τ (bB t) λeZ=>Dp (T m) m x9 c m (d:Int) eZ.2.1 (tP p) (tS s) s.wb (s.ws.map cW) (ae (s.ws.map cW).length) (i:Int) (s.ws[i].lb,s.ws[i].nm,s.ws[i].nx,())) (J kj K Q):=by
    intro τ a hτ h32 akI hτl;rw[show ak ((d:Int)+1)=((d+1:Nat):Int) from wd 1 (by omega)];refine vk (m:=m) (by omega) (by omega) (by omega) ?_;rw[e0];refine aG amh ?_;show Wp (c93 (T m) p.nm p.pb (p.pm.map eG) p.tb (p.tm.map bH) p.sb (p.ss.map dA) s.ws[i].nx (ak ((d:Int)+2)) (bB (t++uT ⟨d+1,τ⟩)) _) _;rw[iH,show ak ((d:Int)+2)=((d+2:Nat):Int) from wd 2 (by omega)];refine bk (d+2) _ _ _ (by omega) (by rw[fH,uU];dsimp only;omega) λls lR=>?_
    dsimp only;rw[show ak ((d:Int)+1)=((d+1:Nat):Int) from wd 1 (by omega)];have hz:=lR.sz;refine vk (m:=m) (by omega) (by omega) (by simp only[fH,uU,jl,mL];omega) ?_;dsimp only;rw[w1 (by omega)];have sg:gQ d (d+1:Nat) (d+1:Nat) (1+W k+1) ([⟨d+1,τ⟩]++ls++[⟨d+1,[125]⟩]):=
     ((gQ.one hτ h32 (by omega) (by omega) (by omega) (NF hτ akI)).app (lR.deep (by omega))).app (gQ.one NM (by decide) (by omega) (by omega) (by simp) ND)
    have aY:=sg.sz;have et:t++uT ⟨d+1,τ⟩++iU ls++uT ⟨d+1,[125]⟩=t++iU ([⟨d+1,τ⟩]++ls++[⟨d+1,[125]⟩]):=by simp[AT,iU,fI]
    rw[et];refine Xb g hk hd c (i+1) _ (by omega) (by omega) (by rw[fH];omega) λSY alg=>?_
    have := h (([⟨d + 1, τ⟩] ++ ls ++ [⟨d + 1, [125]⟩]) ++ SY) (by
      have := sg.app alg
      rw[show 1 + W k + 1 + (1 + 2 * (s.ws.length - (i + 1)) + (((bq s).drop (i + 1)).map λz => W z.toNat).sum) = 1 + 2 * (s.ws.length - i) + (W k + (((bq s).drop (i + 1)).map λz => W z.toNat).sum) by omega] at this
      exact this)
    rw[AT,<-fI] at this;exact this
   refine aS A8 rfl hg (aj (λ_=>?_) (λg2=>?_))
   ·exact rest [108,111,115,116,32,123] 108 ⟨cg,rfl,rfl⟩ (by decide) (by decide) (by decide)
   have Rw:cq s.ws[i].lb=true:=by
    rcases hof.1 with e | e
    ·have:(s.ws[i].lb==[])=false:=g2;rw[e] at this;cases this
    ·exact e
   have Ge:=AV Rw;obtain⟨a,r',eN,ha⟩:=Ge.2.2;have jJ:oL s.ws[i].nm:=by
    rcases hof.2 with e | e
    ·rw[e];exact⟨zw,by simp⟩
    ·exact jt e
   have:=jJ.2;have:=alM ha;refine bE (by dsimp only;omega) (bE (by simp;omega) (bE (by simp;omega) ?_));refine rest (s.ws[i].lb++[40]++s.ws[i].nm++[41,32,123]) a (tl ?_ ?_ rfl) this.2.1 this.2.2.1 (by simp;omega)
   ·simp only[eh];exact⟨⟨⟨Ge.1,cg⟩,jJ.1⟩,cg⟩
   ·rw[eN];rfl
  ·have fB:=Cy g1;have e:(bq s).drop i=[]:=nC (by rw[ru];simp;omega);rw[e] at hl h;obtain⟨r,hr⟩:=bl 1 m;refine vk (m:=m) (by omega) (by omega) (by simp at hl ⊢;omega) ?_
   have := h [⟨d, [125]⟩] (by
     rw[show 1 + 2 * (s.ws.length - i) + ((([] : List Int)).map λz => W z.toNat).sum = 1 by simp; omega]
     exact gQ.one NM (by decide) (cp d) (by omega) (by simp) ND)
   rw[yE,show iU []=[] from rfl,oa] at this;exact this
end
end
section
open Go Go.ax PT
open QQ (lS pz bN qF)
section
variable {m:Nat} {Q:V->List (List C)->Prop} {p:PC} {W D:Nat->Nat}
def agr {n:Nat} {s:PS} (g:BG m p W D n s) (hk:s.kd=3) {d:Nat} (hd:d+2 * inc s<=3+2 * D n) {t:List UInt8} (ht:t.length+4000000 * W n<=100000000000000) {K:kj.T->OR} {x9:aq bp} (h:∀ls,gQ d d d (W n) ls->Wp (K ((),bB (t++iU ls),())) Q)
  {τ:List UInt8} (hτ:NL τ) (hl:τ.length<=330):Wp (iq (T m) (d:Int) ([105,102,32]++τ++[32,123]) (bB t) λv10=>rA bO 2 1 (s.ws.map cW) 0 λv12=>c93 (T m) p.nm p.pb (p.pm.map eG) p.tb (p.tm.map bH) p.sb (p.ss.map dA) v12.1 (ak ((d:Int)+1)) v10.2.1 λbr=>iq (T m) (d:Int) [125,32,101,108,115,101,32,123] br.2.1 λcE=>rA bO 2 1 (s.ws.map cW) 1 λdG=>c93 (T m) p.nm p.pb (p.pm.map eG) p.tb (p.tm.map bH) p.sb (p.ss.map dA) dG.1 (ak ((d:Int)+1)) cE.2.1 λef=>iq (T m) (d:Int) [125] ef.2.1 λeu=>lT (T m) m x9 m (d:Int) eu.2.1 (tP p) (tS s)) (J kj K Q):=by
 have hD:=g.d;have hm:=g.hm;have Z0:inc s=1:=by unfold inc;rw[aP (.inl hk)]
 obtain⟨w0,NY,uN⟩:∃w0 w1,s.ws=[w0,w1]:=by
  have h2:=g.f.i2 hk;match s.ws,h2 with
  | [a,b],_=>exact⟨a,b,rfl⟩
 have ru:bq s=[w0.nx,NY.nx]:=by unfold bq;rw[aI (by rw[hk];decide),uN];rfl
 obtain⟨k0,s0,nJ,oE,bk0,hD0⟩:=g.e w0.nx (by rw[ru];simp);obtain⟨k1,s1,uH,ka,bk1,hD1⟩:=g.e NY.nx (by rw[ru];simp);have hw:=g.w;have ho:lF s=3:=by unfold lF;rw[aP hk]
 rw[ru,ho,nJ,uH] at hw;simp only[e9,vy,zt,Wg,mN,V0] at hw;have wd:=wI d;have hA:TL 105 123 ([105,102,32]++τ++[32,123]):=tl (eh.2 ⟨eh.2 ⟨cg,hτ⟩,cg⟩) rfl rfl;have CJ:([105,102,32]++τ++[32,123]).length=τ.length+5:=by simp
 rw[wd,uN];refine vk (m:=m) (by omega) (by omega) (by omega) ?_;refine aG (yR (r:=cW w0) (v:=(w0.nx,())) rfl (by simp[cW]) rfl rfl) ?_;dsimp only;rw[nJ];refine bk0 (d+1) _ _ _ (by omega) (by rw[fH,uU];dsimp only;omega) λl0 h0=>?_
 have z0:=h0.sz;refine vk (m:=m) (by omega) (by omega) (by simp only[fH,uU,jl,mL] at CJ ⊢;omega) ?_;refine aG (yR (r:=cW NY) (v:=(NY.nx,())) rfl (by simp[cW]) rfl rfl) ?_;dsimp only;rw[uH];refine bk1 (d+1) _ _ _ (by omega) (by simp only[fH,uU,jl,mL] at CJ ⊢;omega) λl1 h1=>?_
 have z1:=h1.sz;refine vk (m:=m) (by omega) (by omega) (by simp only[fH,uU,jl,mL] at CJ ⊢;omega) ?_;have sg:=((((gQ.one hA (by decide) (cp d) (by omega) (by omega) (NF hA (by decide))).app (h0.deep (by omega))).app (gQ.one asa (by decide) (cp d) (by omega) (by simp) arW)).app (h1.deep (by omega))).app (gQ.one NM (by decide) (cp d) (by omega) (by simp) ND);have:=OX g hd ht (x9:=x9) h sg (by rw[hk,aI (by decide)];omega);simp only[AT,yE,show iU []=[] from rfl,oa,<-fI] at this;simp only[<-fI];exact this
def agq {n:Nat} {s:PS} (g:BG m p W D n s):Ot (m+1) p W D n s:=by
 intro d t K Q hd ht h;have hm:=g.hm;have hT:=g.ok.t2;have oB:=g.ok.s2 s (ff g.hs);have fs:=g.f;have eq:∀{z:Int},(s.kd==z)=true->s.kd=z:=λh=>by simpa using h
 refine bI ahx (aS (enc:=dA) (f:=tS) (λa=>⟨by simp[dA],rfl⟩) rfl g.hs ?_);have one:=λ{τ a b} => ags g hd ht (x9:=bB t) (Q:=Q) (τ:=τ) (a:=a) (b:=b) h
 refine aj (λe=>?_) λn0=>aj (λe=>?_) λn10=>aj (λe=>?_) λn1=>aj (λe=>?_) λn2=>aj (λe=>?_) λn3=>aj (λe=>?_) λn4=>aj (λe=>?_) λn5=>aj (λe=>?_) λn6=>aj (λe=>?_) λn7=>aj (λe=>?_) λn8=>aj (λe=>?_) λn9=>?_
 ·have e:=eq e;exact one (by omega) (τ:=[115,116,111,112]) ⟨cg,rfl,rfl⟩ (by decide) (by decide) (by decide)
 ·have e:=eq e;exact one (by omega) (τ:=[102,97,105,108]) ⟨cg,rfl,rfl⟩ (by decide) (by decide) (by decide)
 ·have e:=eq e;have hn:=jt (fs.n1 (by omega));have:=hn.2;refine bE (by dsimp only[tS];omega) (bE (by simp[tS];omega) (EH (m:=m) (by omega) hT λτ h1 h2=>bE (by simp[tS];omega) (bE (by simp[tS];omega) ?_)));exact one (by omega) (tl (eh.2 ⟨eh.2 ⟨eh.2 ⟨eh.2 ⟨cg,hn.1⟩,cg⟩,h1⟩,cg⟩) (a:=108) (b:=59) rfl rfl) (by decide) (by decide) (by simp[tS];omega)
 ·have e:=eq e;refine EH (m:=m) (by omega) hT λτ h1 h2=>bE (by dsimp only[tS];omega) (bE (by simp[tS];omega) ?_)
  exact one (by omega) (tl (eh.2 ⟨eh.2 ⟨cg,h1⟩,cg⟩) (a:=112) (b:=59) rfl rfl) (by decide) (by decide) (by simp;omega)
 ·have e:=eq e;refine EH (m:=m) (by omega) hT λτ h1 h2=>bE (by dsimp only[tS];omega) (bE (by simp[tS];omega) ?_)
  exact agr g e hd ht h h1 h2
 ·have e:=eq e;have hn:=jt (fs.n1 (by omega));have hp:=jt (fs.n2 (by omega));have hb:=jt (fs.n3 (by omega));have:=hn.2;have:=hp.2;have:=hb.2;refine bE (by dsimp only[tS];omega) (bE (by simp[tS];omega) (bE (by simp[tS];omega) (bE (by simp[tS];omega) (bE (by simp[tS];omega) (bE (by simp[tS];omega) (EH (m:=m) (by omega) hT λτ h1 h2=>bE (by simp[tS];omega) (bE (by simp[tS];omega) ?_)))))));exact one (by omega) (tl (by simp only[eh];exact⟨⟨⟨⟨⟨⟨⟨⟨cg,hn.1⟩,cg⟩,hp.1⟩,cg⟩,hb.1⟩,cg⟩,h1⟩,cg⟩) (a:=115) (b:=59) rfl rfl) (by decide) (by decide) (by simp[tS];omega)
 ·have e:=eq e;have hn:=jt (fs.n1 (by omega));have hp:=jt (fs.n2 (by omega));have:=hn.2;have:=hp.2;have hD:=g.d;have Z0:inc s=1:=by unfold inc;rw[aP (.inr e)]
  have hw:=g.w;have ho:lF s=2+2 * s.ws.length:=by unfold lF;rw[aI (by omega),aP e]
  have hA:TL 104 123 ([104,101,97,114,32]++s.nm++[32,102,114,111,109,32]++s.pr++[32,123]):=tl (by simp only[eh];exact⟨⟨⟨⟨cg,hn.1⟩,cg⟩,hp.1⟩,cg⟩) rfl rfl;have CJ:([104,101,97,114,32]++s.nm++[32,102,114,111,109,32]++s.pr++[32,123]).length<=50:=by simp;omega
  refine bE (by dsimp only[tS];omega) (bE (by simp[tS];omega) (bE (by simp[tS];omega) (bE (by simp[tS];omega) (vk (m:=m) (by omega) (by omega) ?_ ?_))))
  ·show t.length+([104,101,97,114,32]++s.nm++[32,102,114,111,109,32]++s.pr++[32,123]).length+2 * d+1<=_;omega
  ·refine Xb g e hd m 0 _ (by have:=oB.2.2.2;omega) (by omega) ?_ λls lR=>?_
   ·rw[fH,uU,su];show t.length+(2 * d+([104,101,97,114,32]++s.nm++[32,102,114,111,109,32]++s.pr++[32,123]).length+1)+_<=_;omega
   ·have:=OX g hd ht (x9:=bB t) h ((gQ.one hA (by decide) (cp d) (by omega) (by omega) (NF hA (by decide))).app lR) (by rw[e,aI (by decide),su];omega);rw[AT,yE,show iU []=[] from rfl,oa,<-fI] at this;exact this
 ·have e:=eq e;have hn:=jt (fs.n4 (by omega));have:=hn.2;refine bE (by dsimp only[tS];omega) (Vf (m:=m) (by omega) hT oB.1 λτ h1 h2 h3=>bE (by simp[tS];omega) ?_);exact one (by omega) (tl (eh.2 ⟨eh.2 ⟨cg,hn.1⟩,h1⟩) (a:=99) (b:=41) rfl h3) (by decide) (by decide) (by simp[tS];omega)
 ·have e:=eq e;have hn:=jt (fs.n4 (by omega));have:=hn.2;refine bE (by dsimp only[tS];omega) (Vf (m:=m) (by omega) hT oB.1 λτ h1 h2 h3=>bE (by simp[tS];omega) (bE (by simp[tS];omega) ?_));exact one (by omega) (tl (eh.2 ⟨eh.2 ⟨eh.2 ⟨cg,hn.1⟩,h1⟩,cg⟩) (a:=115) (b:=59) rfl rfl) (by decide) (by decide) (by simp[tS];omega)
 ·have e:=eq e;have hc:TB s.cs:=⟨oB.2.1,λc hc=>⟨oB.2.2.1 c hc,jt (fs.n5 e c hc).1,jt (fs.n5 e c hc).2⟩⟩
  refine asX (m:=m) (by omega) hT (jt (fs.n1 (by omega))) (jt (fs.n3 (by omega))) (jt (fs.n2 (by omega))) hc λτ h1 h2=>?_
  exact one (by omega) h1 (by decide) (by decide) (iD h2 (by decide))
 ·have e:=eq e;have hn:=jt (fs.n1 (by omega));have:=hn.2;refine bE (by dsimp only[tS];omega) (bE (by simp[tS];omega) ?_);exact one (by omega) (tl (eh.2 ⟨eh.2 ⟨cg,hn.1⟩,cg⟩) (a:=100) (b:=59) rfl rfl) (by decide) (by decide) (by simp[tS];omega)
 ·have ne:∀{z:Int},(s.kd==z)=false->s.kd≠z:=λh=>by simpa using h
  have:=ne n0;have:=ne n1;have:=ne n2;have:=ne n3;have:=ne n4;have:=ne n5;have:=ne n6;have:=ne n7;have:=ne n8;have:=ne n9;have:=ne n10;have:=fs.k0;omega
def W9 (hp:jN p) (hS:SF p.ss) (mh:p.ss.length<=80) (hW:∀(n:Nat) s,p.ss[n]? = some s->W n=lF s+((bq s).map λz=>W z.toNat).sum)
  (hD:∀(i:Nat) s,p.ss[i]? = some s->D i<=24/\∀k:Nat,(k:Int)∈bq s->∀s',p.ss[k]? = some s'->D k=D i+inc s'):∀(j n:Nat) (s:PS),p.ss[n]? = some s->p.ss.length - n<=j->∀m,1000+j<=m->Ot m p W D n s
 | 0,n,s,hs,hj,m,hm=>by
  have:=(cd.1 hs).1;omega
 | j+1,n,s,hs,hj,m,hm=>by
  obtain⟨m,rfl⟩:=bl 1 m;refine agq ⟨by omega,hp,hs,hS.f s (ff hs),λt ht=>?_,hW n s hs,(hD n s hs).1⟩;obtain⟨k,rfl,h1,h2⟩:=hS.e n s t hs ht;have hg:p.ss[k]? = some p.ss[k]:=gE h2;exact⟨k,_,rfl,hg,W9 hp hS mh hW hD j k _ hg (by omega) m (by omega),(hD n s hs).2 k ht _ hg⟩
end
end
section
open Go Go.ax PT
def Wf (ss:List PS):Nat->Nat->Nat
 | 0,_=>0
 | f+1,n=>match ss[n]? with
  | none=>0
  | some s=>lF s+((bq s).map λz=>Wf ss f z.toNat).sum
def ato {ss:List PS} (h:SF ss):∀f f' n,ss.length - n<=f->ss.length - n<=f'->Wf ss f n=Wf ss f' n:=by
 intro f;induction f with
 | zero=>
  intro f' n h1 h2;cases f' with
  | zero=>rfl
  | succ f'=>
   show 0=(match ss[n]? with | none=>0 | some s=>_)
   rw[zo (by omega)]
 | succ f ih=>
  intro f' n h1 h2;cases hs:ss[n]? with
  | none=>
   have e:∀f,Wf ss f n=0:=λf=>by
    cases f with
    | zero=>rfl
    | succ f=>show (match ss[n]? with | none=>0 | some s=>_)=0;rw[hs]
   rw[e,e]
  | some s=>
   have hn:=(cd.1 hs).1;obtain⟨f',rfl⟩:∃i,f'=i+1:=⟨f' - 1,by omega⟩
   show (match ss[n]? with | none=>0 | some s=>_)=(match ss[n]? with | none=>0 | some s=>_)
   rw[hs];show lF s+_=lF s+_;congr 2;refine N8 λz hz=>?_
   obtain⟨k,rfl,h3,h4⟩:=h.e n s z hs hz;exact ih f' _ (by simp;omega) (by simp;omega)
def Wn (ss:List PS) (n:Nat):Nat:=Wf ss ss.length n
def afP {ss:List PS} (h:SF ss) {n:Nat} {s:PS} (hs:ss[n]? = some s):Wn ss n=lF s+((bq s).map λz=>Wn ss z.toNat).sum:=by
 have hn:=(cd.1 hs).1;obtain⟨f,hf⟩:∃f,ss.length=f+1:=⟨ss.length - 1,by omega⟩
 have e:Wn ss n=lF s+((bq s).map λz=>Wf ss f z.toNat).sum:=by
  unfold Wn;rw[hf];show (match ss[n]? with | none=>0 | some s=>_)=_;rw[hs]
 rw[e];congr 2;refine N8 λz hz=>?_
 obtain⟨k,rfl,h3,h4⟩:=h.e n s z hs hz;exact ato h _ _ _ (by simp;omega) (by simp)
def X5 (k:Nat):∀n,((List.range n).map λi=>((i+1:Nat):Int)).count (k:Int)=if 1<=k/\k<=n then 1 else 0
 | 0=>by rw[aI (by omega)];rfl
 | n+1=>by
  rw[Oj,eF,VZ,X5 k n];simp only[e9,vy,List.count_singleton];by_cases h:k=n+1
  ·subst h;rw[aI (by omega),aP (by simp),aP (by omega)]
  ·rw[aI (show ¬ (((n+1:Nat):Int)==(k:Int))=true by simp;omega)];by_cases h2:1<=k/\k<=n
   ·rw[aP h2,aP (by omega)]
   ·rw[aI h2,aI (by omega)]
def aql {ss:List PS} (h:SF ss) {L:Nat} (hL:ss.length=L+1):(ss.flatMap bq).Perm ((List.range L).map λi=>((i+1:Nat):Int)):=by
 have inF:∀a,a∈ss.flatMap bq->∃k:Nat,a=(k:Int)/\1<=k/\k<=L:=by
  intro a ha;obtain⟨s,hs,ha⟩:=Oi.1 ha;obtain⟨i,hi,rfl⟩:=ER hs;obtain⟨k,e,h1,h2⟩:=h.e i _ a (gE hi) ha;exact⟨k,e,by omega,by omega⟩
 refine List.perm_iff_count.2 λa=>?_
 by_cases ha:∃k:Nat,a=(k:Int)/\1<=k/\k<=L
 ·obtain⟨k,rfl,h1,h2⟩:=ha;rw[X5,aP ⟨h1,h2⟩];exact h.u k h1 (by omega)
 ·rw[Oc.2 λhm=>ha (inF a hm),Oc.2 λhm=>?_];obtain⟨i,hi,rfl⟩:=kJ.1 hm;exact ha ⟨i+1,rfl,by omega,by have:=vu.1 hi;omega⟩
def atm {ss:List PS} (h:SF ss) (h0:ss≠[]):Wn ss 0=(ss.map lF).sum:=by
 obtain⟨L,hL⟩:∃L,ss.length=L+1:=by cases ss with | nil=>exact absurd rfl h0 | cons a t=>exact⟨t.length,rfl⟩
 have st:∀j,j<=ss.length->((List.range j).map (Wn ss)).sum=((ss.take j).map lF).sum+((PP ss j).map λz=>Wn ss z.toNat).sum:=by
  intro j;induction j with
  | zero=>intro _;simp[PP]
  | succ j ih=>
   intro hj;have hs:ss[j]? = some ss[j]:=gE (by omega);rw[Oj,eF,List.sum_append,ih (by omega),Wx hs,sq,hs];have:=afP h hs;simp only[eF,List.sum_append,e9,vy,zt,Wg,N9];omega
 have:=st ss.length (cp _);rw[ES,show PP ss ss.length=ss.flatMap bq by simp[PP],((aql h hL).map _).sum_nat,hL,af0] at this;simp only[e9,zt,IJ] at this;have e:((List.range L).map (Wn ss∘Nat.succ)).sum=((List.range L).map ((λz:Int=>Wn ss z.toNat)∘λi=>((i+1:Nat):Int))).sum:=by
  congr 1;all_goals (refine N8 λi _=>?_;simp)
 omega
end
section
open Go Go.ax PT
open QQ (lS pz bN qF cK D2 oP D0 DZ jb AQ)
def xI (l:LN):Bool:=l.d==0&&l.s.head? == some 125
section
variable {m:Nat} {Q:V->List (List C)->Prop} {K:kj.T->OR}
def ac0 (hm:1200<=m) {p:PC} (hp:jN p) (hh:HD p) (hS:SF p.ss) {t:List UInt8} (ht:t.length+4000000 * (2+Wn p.ss 0)<=100000000000000) {b:Bool} {o:List (List UInt8)} (hl:o.length<=2) (ho:∀y∈o,NL y/\y.length<=11)
  (h:∀ls,gQ 0 0 0 (2+Wn p.ss 0) ls->ls.countP xI=1->Wp (K ((),bB (t++iU ls),())) Q) :
  Wp (od (T m) b (o.map aE) [44,32] λv4=>(aO (([112,114,111,99,32]++p.nm++[40]).length+List.length v4.1) (aO (([112,114,111,99,32]++p.nm++[40]++v4.1).length+3) (iq (T m) 0 ([112,114,111,99,32]++p.nm++[40]++v4.1++[41,32,123]) (bB t) λv5=>(c93 (T m) p.nm p.pb (p.pm.map eG) p.tb (p.tm.map bH) p.sb (p.ss.map dA) 0 1 v5.2.1 λv6=>(iq (T m) 0 [125] v6.2.1 λv7=>(some ((.ao []),[(bx bp v7.2.1)])))))))) (J kj K Q):=by
 have hj:=GL (N:=11) λy hy=>(ho y hy).2
 have hn:=jt hh.hn;have oA:=hn.2;obtain⟨D,hD⟩:=hS.d;have oE:p.ss[0]? = some (p.ss[0]'(hp.s0)):=gE _;generalize p.ss[0]'(hp.s0)=s0 at oE;have hi:inc s0<=1:=by unfold inc;split<;>omega
 have bk:=W9 (D:=D) hp hS hh.hs (λn s hs=>afP hS hs) hD 80 0 s0 oE (by have:=hh.hs;omega) m (by omega);refine Iu (by omega) (by omega) (λy hy=>by have:=(ho y hy).2;omega) (bE (by simp;omega) (bE (by simp;omega) ?_));dsimp only;have hA:TL 112 123 ([112,114,111,99,32]++p.nm++[40]++lS o++[41,32,123]):=tl (by simp only[eh];exact⟨⟨⟨⟨cg,hn.1⟩,cg⟩,GK λy hy=>(ho y hy).1⟩,cg⟩) rfl rfl;have CJ:([112,114,111,99,32]++p.nm++[40]++lS o++[41,32,123]).length<=100:=by simp;omega
 generalize [112,114,111,99,32]++p.nm++[40]++lS o++[41,32,123]=A at hA CJ;refine vk (m:=m) (d:=0) (by omega) (by omega) (by omega) ?_;refine bk 1 _ _ _ (by omega) (by rw[fH,uU];dsimp only;omega) λls lR=>?_
 have hz:=lR.sz;refine vk (m:=m) (d:=0) (by omega) (by omega) (by simp only[fH,uU,jl,mL];omega) (aB ?_);unfold J;rw[rV];have sg:=((gQ.one (e:=0) (d:=0) hA (by decide) (by omega) (by omega) (by omega) (NF hA (by decide))).app (lR.deep (by omega))).app (gQ.one NM (by decide) (cp 0) (by omega) (by simp) ND)
 have := h _ (by rw[show 2 + Wn p.ss 0 = 1 + Wn p.ss 0 + 1 by omega]; exact sg) (by
   rw[List.countP_append, List.countP_append]
   have e1 : List.countP xI ls = 0 := List.countP_eq_zero.2 λl hl => by
     have := (lR.ok l hl).2
     simp[xI]; omega
   have e2 : List.countP xI [⟨0, A⟩] = 0 := by simp[xI, hA.h]
   rw[e1, e2]; rfl)
 simp only[AT,yE,show iU []=[] from rfl,oa,<-fI] at this;exact this
def acY {p:PC} (hp:jN p) {x:List UInt8×Int×List UInt8} (hx:x∈p.pm):NL (x.1++[58,32]++pz x.2.1 x.2.2)/\(x.1++[58,32]++pz x.2.1 x.2.2).length<=11:=by
 obtain⟨h1,h2⟩:=hp.p2 x hx;have:=QQ.agQ h1;rcases h2 with e | e<;>rw[e]<;>exact⟨eh.2 ⟨cg,agP h1⟩,by simp;omega⟩
def acZ (q:Nat) (hq:1200<=q) {p:PC} (hp:jN p) (hh:HD p) (hS:SF p.ss) {t:List UInt8} (ht:t.length+4000000 * (2+Wn p.ss 0)<=100000000000000)
  (h:∀ls,gQ 0 0 0 (2+Wn p.ss 0) ls->ls.countP xI=1->Wp (K ((),bB (t++iU ls),())) Q) {x7:aq bp}:∀(c i:Nat) (o:List (List UInt8)),p.pm.length - i < c->i<=p.pm.length->o.length=i->(∀y∈o,NL y/\y.length<=11)->
  Wp (KT (T q) q x7 c (bB t) (tP p) (o.map aE) p.pb (p.pm.map eG) (ae (p.pm.map eG).length) (i:Int)) (J kj K Q)
 | 0,i,o,hc,_,_,_=>by omega
 | c+1,i,o,hc,hi,ho,hy=>by
  have h2:=hp.p1;have hn:=(jt hh.hn).2;refine aG amm (aj (λg1=>?_) (λ_=>bE (by dsimp only[tP];omega) (bE (by simp[tP];omega) (az (by simp) ?_))))
  ·have af:=bW g1;have hx:=hp.p2 _ (bU af);have hk:=acY hp (bU af);have jI:p.pm[i].1.length=1:=by rcases hx.2 with e | e<;>rw[e]<;>rfl
   have s5:=hk.2;simp only[fH] at s5;refine aS HS rfl (gE af) (bE (by dsimp only;omega) ?_);refine aG (QQ.X9 (by omega) hx.1 rfl) (bE (by simp only[fH];omega) (az (gW (by simp;omega) (by omega)) ?_));rw[w1 (by omega),dZ]
   have := acZ q hq hp hh hS ht h (x7 := x7) c (i + 1) (o ++ [p.pm[i].1 ++ [58, 32] ++ pz p.pm[i].2.1 p.pm[i].2.2]) (by omega) (by omega) (by simp; omega) (λy gN => by
     rw[dk] at gN
     rcases gN with gN | gN
     · exact hy y gN
     · rw[pd.1 gN]; exact hk)
   rw[eF] at this;exact this
  ·rw[dZ,pR];exact ac0 hq hp hh hS ht (by omega) hy h
def asY (hm:1210<=m) {p:PC} (hp:jN p) (hh:HD p) (hS:SF p.ss) {t:List UInt8} (ht:t.length+4000000 * (2+Wn p.ss 0)<=100000000000000)
  (h:∀ls,gQ 0 0 0 (2+Wn p.ss 0) ls->ls.countP xI=1->Wp (K ((),bB (t++iU ls),())) Q):Wp (XB (T m) p.nm p.pb (p.pm.map eG) p.tb (p.tm.map bH) p.sb (p.ss.map dA) (bB t) K) Q:=by
 obtain⟨m,rfl⟩:=bT hm;obtain⟨r,hr⟩:=bl 1 m;have e0:KS (T m) m (bB t) m=KS (T m) m (bB t) (r+1):=by rw[<-hr]
 have h2:=hp.p1;have hn:=(jt hh.hn).2;refine bI ahC ?_;rw[e0];refine aG aml (aj (λg1=>?_) (λ_=>bE (by dsimp only[tP];omega) (bE (by simp[tP];omega) ?_)))
 ·have af:=bW (i:=0) g1;have hx:=hp.p2 _ (bU af);have hk:=acY hp (bU af);have jI:p.pm[0].1.length=1:=by rcases hx.2 with e | e<;>rw[e]<;>rfl
  have s5:=hk.2;simp only[fH] at s5;refine aS HS (i:=0) rfl (gE af) (bE (by dsimp only;omega) ?_);refine aG (QQ.X9 (by omega) hx.1 rfl) (bE (by simp only[fH];omega) (az rfl ?_));exact acZ m (by omega) hp hh hS ht h r 1 [p.pm[0].1++([58,32]:List UInt8)++pz p.pm[0].2.1 p.pm[0].2.2] (by omega) (by omega) rfl (λy hy=>by rw[pd.1 hy];exact hk)
 ·exact ac0 (o:=[]) (by omega) hp hh hS ht (by simp) (λy hy=>by cases hy) h
end
end
section
open Go Go.ax
section
variable {A B:bX}
def aaD {f g:St->Option (uh×St)} (h:∀S x,f S=some x->g S=some x):∀(n:Nat) (S:St) x,iter f n S=some x->iter g (n+1) S=some x
 | 0,S,x,he=>by cases he
 | n+1,S,x,he=>by
  rw[iter] at he ⊢;cases hf:f S with
  | none=>simp[hf] at he
  | some y=>
   rw[hf] at he;rw[h S y hf];simp only[Option.bind] at he ⊢;obtain⟨e,S1⟩:=y;cases e with
   | norm=>exact aaD h n S1 x he
   | exit i=>exact he
   | ret=>exact he
def aju (h:ui A B) (n:Nat):∀(c:ma) (S:St) x,dq A n c S=some x->dq B (n+1) c S=some x:=by
 intro c;induction c with
 | skip=>intro S x he;exact he
 | iY keep gc ops draw=>intro S x he;exact ajv h n (.iY keep gc ops draw) S x he
 | seq a b AE AF=>
  intro S x he;simp only[dq] at he ⊢;cases h1:dq A n a S with
  | none=>simp[h1] at he
  | some y=>
   rw[h1] at he;rw[AE S y h1];obtain⟨e,S1⟩:=y;simp only[Option.bind] at he ⊢;cases e with
   | norm=>exact AF S1 x he
   | exit i=>exact he
   | ret=>exact he
 | cond c a b AE AF=>
  intro S x he;simp only[dq] at he ⊢;cases h1:zK S c with
  | none=>simp[h1] at he
  | some t=>
   rw[h1] at he;simp only[Option.bind] at he ⊢;cases t with
   | true=>exact AE S x he
   | false=>exact AF S x he
 | block id b ih=>
  intro S x he;simp only[dq] at he ⊢;cases h1:dq A n b S with
  | none=>simp[h1] at he
  | some y=>rw[h1] at he;rw[ih S y h1];exact he
 | loop b ih=>intro S x he;simp only[dq] at he ⊢;exact aaD ih n S x he
 | exit id=>intro S x he;exact he
 | ret=>intro S x he;exact he
def ajt (h:ui A B) (n:Nat) (fn:lk) (args:List V) (bx:List (List C)) (r) (he:vQ A n fn args bx=some r):vQ B (n+1) fn args bx=some r:=by
 unfold vQ at he ⊢;split at he
 ·rename_i hl;rw[aP hl];cases h1:dq A n fn.body (gk 0 args++dm 0 bx) with
  | none=>simp[h1] at he
  | some y=>rw[h1] at he;rw[aju h n _ _ y h1];exact he
 ·cases he
def YO {t:Nat->Option lk} {p:bX}:∀n,ui (nG t p n) (nG t p (n+1))
 | 0=>λf vs bx r h=>by cases h
 | n+1=>λf vs bx r h=>by
  simp only[nG] at h ⊢;cases hx:t f with
  | none=>simp only[hx] at h ⊢;exact h
  | some fn=>simp only[hx] at h ⊢;exact ajt (YO n) n fn vs bx r h
end
def aga {n k f:Nat} {vs:List V} {bs:List (List C)} {r:V×List (List C)} (h:T n f vs bs=some r) (hk:n<=k):T k f vs bs=some r:=by
 obtain⟨j,rfl⟩:∃j,k=n+j:=⟨k - n,by omega⟩
 clear hk;induction j with
 | zero=>exact h
 | succ j ih=>
  unfold T at ih ⊢;exact YO (n+j) f vs bs r ih
end
section
open Go Go.ax PT
open QQ (lS pz bN qF)
def UY {X:Type} (f:X->Nat) (c:Nat):∀l:List X,(∀x∈l,f x<=c)->(l.map f).sum<=l.length * c
 | [],_=>by simp
 | a::t,h=>by
  have h1:=h a jD;have h2:=UY f c t λx hx=>h x (jC _ hx)
  simp only[e9,zt,jl,lJ,Nat.one_mul];omega
def wP (p:PC):Nat:=2+Wn p.ss 0
def asF {p:PC} (hp:jN p) (hS:SF p.ss):wP p=2+(p.ss.map lF).sum:=by
 unfold wP;rw[atm hS (by intro e;have:=hp.s0;rw[e] at this;cases this)]
def asG {p:PC} (hp:jN p) (hh:HD p) (hS:SF p.ss):wP p<=17000:=by
 have:=UY lF 202 p.ss λs hs=>by
  have:=(hp.s2 s hs).2.2.2;unfold lF;split
  ·omega
  ·split<;>omega
 have mh:=hh.hs;have:p.ss.length * 202<=80 * 202:=p8 _ mh;rw[asF hp hS];omega
abbrev I2 (b1 b2 b3:Bool) (gs:List GP) (aF:List PC):List V:=[(.agg [(lC (.im b1) 3 ((gs.map eD).map cJ)),(lC (.im b2) 2 []),(lC (.im b3) 4 (aF.map fA))])]
end
section
open Go Go.ax PT
section
variable {m:Nat} {Q:V->List (List C)->Prop} {b1 b2 b3:Bool} {gs:List GP} {aF:List PC} {K:dE.T->OR}
def apt {ls:List LN} (h:ls.countP xI=1):iU ls≠[]:=by
 cases ls with
 | nil=>cases h
 | cons a t=>rw[yE];unfold uT;simp
def ac3 (q:Nat) (hq:1300<=q) (di:aF.length<=20) (hp:∀p∈aF,jN p) (hh:∀p∈aF,HD p/\SF p.ss) (h:∀s,PL s->s≠[]->s.length<=1900000000000->Wp (K (s,())) Q):∀(c i:Nat) (t:List UInt8),aF.length - i < c->i<=aF.length->(i=aF.length->t≠[])->PL t->t.length+4000000 * ((aF.drop i).map wP).sum<=1900000000000->
  Wp (KM (T q) q c (bB t) b3 (aF.map fA) (ae (aF.map fA).length) (i:Int)) (J dE K Q)
 | 0,i,t,hc,_,_,_,_=>by omega
 | c+1,i,t,hc,hi,aD,ht,hl=>by
  refine aG Sp (aj (λg1=>?_) (λg1=>?_))
  ·have af:=bW g1;have hm:=bU af;rw[ku af,e9,zt] at hl;refine aS (enc:=fA) (f:=tP) (λa=>⟨by simp[fA],rfl⟩) rfl (gE af) ?_;refine asY (m:=q) (by omega) (hp _ hm) (hh _ hm).1 (hh _ hm).2 (t:=t) (by unfold wP at hl;omega) λl0 h0 h0c=>?_
   have hz:=h0.sz;dsimp only;rw[w1 (by omega)];exact ac3 q hq di hp hh h c (i+1) _ (by omega) (by omega) (λ_ e=>apt h0c (VG.1 e).2) (lL.2 ⟨ht,abz λl lQ=>(h0.ok l lQ).1.1⟩) (by rw[fH];unfold wP at hl ⊢;omega)
  ·have fB:=Cy g1;have aD:=aD (by omega);have st:=NH q (by omega) t aD (by omega);exact aG (show c37 (T q) (bB t) _=_ by rw[c37,st,Ui]) (aB (aH rfl (h t ht aD (by omega))))
def ac4 (q:Nat) (hq:3000<=q) (gR:gs.length<=5) (hg:∀g∈gs,lE g) (Gq:aF≠[]) (di:aF.length<=20) (hp:∀p∈aF,jN p) (hh:∀p∈aF,HD p/\SF p.ss) (h:∀s,PL s->s≠[]->s.length<=1900000000000->Wp (K (s,())) Q):∀(c i:Nat) (t:List UInt8),gs.length - i < c->i<=gs.length->PL t->t.length<=50000 * i->
  Wp (GX (T q) q c (GR b1 b2 b3 (gs.map eD) [] aF) (bB t) b1 ((gs.map eD).map cJ) (ae ((gs.map eD).map cJ).length) (i:Int)) (J dE K Q)
 | 0,i,t,hc,_,_,_=>by omega
 | c+1,i,t,hc,hi,hpt,hl=>by
  refine aG aaM (aj (λg1=>?_) (λg1=>?_))
  ·have Ap:=bW g1;have af:i < gs.length:=by simpa using Ap
   have ok:=hg _ (bU af);refine aS T9 rfl (a:=eD gs[i]) (by rw[bQ,gE af];rfl) ?_;show Wp (Ja _ gs[i].nm false (((List.range gs[i].M).map QQ.cK).map aE) false (gs[i].ps.map QQ.cP) _) _;rw[Pq];refine afv (m:=q) (M:=500) (by omega) (T8 ok.2) λs s1 s2 s3=>si (m:=q) (by omega) (by dsimp only;omega) λn=>cF rfl ?_
   dsimp only;rw[w1 (by omega)];exact ac4 q hq gR hg Gq di hp hh h c (i+1) _ (by omega) (by omega) (lL.2 ⟨hpt,s1⟩) (by rw[fH];omega)
  ·have ak9:=Cy g1;have fB:gs.length<=i:=by simpa using ak9
   have hs:=UY wP 17000 aF λp lz=>asG (hp p lz) (hh p lz).1 (hh p lz).2
   have:aF.length * 17000<=20 * 17000:=p8 _ di;have hpp:1<=aF.length:=by cases aF with | nil=>exact absurd rfl Gq | cons=>simp
   obtain⟨r,hr⟩:=bl 1 q;have e1:Dm (T q) q q=Dm (T q) q (r+1):=by rw[<-hr]
   rw[e1];refine aG aaL (eW rfl ?_);exact ac3 q (by omega) di hp hh h q 0 t (by omega) (by omega) (λe=>by omega) hpt (by rw[su];omega)
def asZ (hm:60000<=m) {o:V×List (List C)} {x:dF.T} (ho:∀n,50000<=n->T n 12 (I2 b1 b2 b3 gs aF) []=some o) (hx:jH dF o=some x) (gR:gs.length<=5) (hg:∀g∈gs,lE g) (Gq:aF≠[]) (di:aF.length<=20) (hp:∀p∈aF,jN p) (hh:x.1.1=0->∀p∈aF,HD p/\SF p.ss)
  (h:∀s,PL s->s.length<=1900000000000->(s==[])=(x.1.1 != 0)->Wp (K (s,())) Q) :
  Wp (O9 (T m) b1 ((gs.map eD).map cJ) b2 [] b3 (aF.map fA) K) Q:=by
 obtain⟨m,rfl⟩:=bT hm;refine bI Yo (jk (ho m (by omega)) hx (aj (λg=>aB (aH rfl (h [] vG (by simp) (by rw[g];rfl)))) (λg=>?_)));have hz:x.1.1=0:=by simpa using g
 exact ac4 m (by omega) gR hg Gq di hp (hh hz) (λs s1 s2 s3=>h s s1 s3 (by rw[g];exact lI.2 s2)) m 0 [] (by omega) (by omega) vG (by simp)
end
end
section
open Go Go.ax
abbrev UU:List D:=[.int .i64 0,.str [],.str [],.str [],.str [],.int .i64 (-1),.sl (.im true) 1 [],.sl (.im true) 3 [],.sl (.im true) 3 [],.int .i64 (-1)]
abbrev TU:List D:=[.str [109,97,105,110],.sl (.im true) 3 [],.sl (.im true) 6 [],.sl (.im false) 10 [UU]]
def ag0 (m:Nat):T (m+60) 12 [.agg [lC (.im true) 3 [],lC (.im true) 2 [],lC (.im false) 4 [TU]]] []=some (.agg [iC 0,iC 0,iC 0],[]):=by kernel_rfl
end
section
open Go Go.ax
def aqt (m:Nat):T (m+60) 36 [pE,.agg [sC [109,97,105,110],lC (.im true) 3 [],lC (.im true) 6 [],lC (.im false) 10 [UU]]] [bx bp ((),(.im true,[]),())]=some (.ao [],[bx bp ((),(.own,D.c8 [112,114,111,99,32,109,97,105,110,40,41,32,123,10,32,32,115,116,111,112,10,125,10]),())]):=by kernel_rfl
def ar8 (m:Nat):T (m+60) 15 [.one (lC (.im false) 6 [[(.int .i64 0),(.str [120]),(.int .i64 0),(.str []),(.int .i64 (-1)),(.int .i64 (-1))],[(.int .i64 1),(.str []),(.int .i64 (-1)),(.str []),(.int .i64 (-1)),(.int .i64 (-1))],[(.int .i64 6),(.str []),(.int .i64 0),(.str []),(.int .i64 0),(.int .i64 1)]]),.one (iC 2)] []=some (.one (sC [40,120,32,43,32,45,49,41]),[]):=by kernel_rfl
end
section
open Go Go.ax
def ash {o:OR} {K:aq eQ×Unit->OR} {z:OR} {a b c:Int} (h:o=some (.agg [iC a,iC b,iC c],[])) (h2:K ((a,b,c,()),())=z):aA dF o K=z:=Ez (v:=(a,b,c,())) h rfl h2
def asj {o:OR} {K:Unit×aq bp×Unit->OR} {z:OR} {p:aq bp} (h:o=some (.ao [],[bx bp p])) (h2:K ((),p,())=z):aA kj o K=z:=U4 h h2
def asn {o:OR} {K:BB×aq y9×Unit->OR} {z:OR} {s:BB} (h:o=some (.one (sC s),[bx y9 ((),(),())])) (h2:K (s,((),(),()),())=z):aA Um o K=z:=by
 subst h;exact h2
def aqu (m:Nat):T (m+61) 11 [.agg [lC (.im true) 3 [],lC (.im true) 2 [],lC (.im false) 4 [TU]]] []=some (.one (sC [112,114,111,99,32,109,97,105,110,40,41,32,123,10,32,32,115,116,111,112,10,125,10]),[]):=by
 refine Yo _ (ash (ag0 m) (bj rfl ?_));rw[aaM];refine bj rfl ?_;rw[aaL];refine bj rfl ?_;rw[Sp];refine dz rfl (fZ (i:=0) (v:=([109,97,105,110],(true,[]),(true,[]),(false,[UU]),())) rfl (r:=TU) rfl (by decide) rfl (asj (aqt m) ?_));dsimp only;rw[Sp];exact bj (by decide) (asn (NH (m+60) (by omega) [112,114,111,99,32,109,97,105,110,40,41,32,123,10,32,32,115,116,111,112,10,125,10] (by decide) (by decide)) rfl)
def akh {n:Nat} (hn:100<=n):T n 9 [] []=some (.one (bC true),[]):=by
 obtain⟨m,rfl⟩:=bl 62 n;exact ahF _ (Bl (ar8 (m+1)) (dz rfl (Bl (aqu m) (dz rfl (Bl (QQ.acF (m+61) (by omega) (k:=5) (x:=[112,46,97]) (by decide)) rfl)))))
end
section
open Go Go.ax PT
def ag1 {b1 b2 b3:Bool} {gs:List GP} {aF:List PC} (gR:gs.length<=5) (hg:∀g∈gs,lE g) (di:aF.length<=20) (hp:∀p∈aF,jN p) :
  ∃(o:V×List (List C)) (x:dF.T),(∀n,50000<=n->T n 12 (I2 b1 b2 b3 gs aF) []=some o)/\jH dF o=some x/\(x.1.1=0->∀p∈aF,HD p/\SF p.ss):=by
 classical
 have h:=asM (m:=50000) (b1:=b1) (b2:=b2) (b3:=b3) (Q:=λ_ _=>True) (by omega) (gs:=gs) (by omega) hg di hp (K:=λx=>if x.1.1=0->∀p∈aF,HD p/\SF p.ss then some (.ao [],[]) else none)
  ⟨λe a b he => by
    show Wp (if(e = 0 -> _) then _ else _) _
    rw[aP λh => absurd h he]; exact aB trivial, λhh => by
    show Wp (if((0 : Int) = 0 -> _) then _ else _) _
    rw[aP λ_ => hh]; exact aB trivial⟩
 obtain⟨v,bs,e,_⟩:=h;change aA dF (T 50000 12 (I2 b1 b2 b3 gs aF) []) _=_ at e;cases ho:T 50000 12 (I2 b1 b2 b3 gs aF) [] with
 | none=>rw[ho] at e;simp[aA] at e
 | some o=>
  rw[ho] at e;simp only[aA] at e;cases hx:jH dF o with
  | none=>rw[hx] at e;cases e
  | some x=>
   rw[hx] at e;refine⟨o,x,λn hn=>aga ho hn,hx,?_⟩;by_cases hP:x.1.1=0->∀p∈aF,HD p/\SF p.ss
   ·exact hP
   ·simp only[aI hP] at e;cases e
section
variable {m M:Nat} {Q:V->List (List C)->Prop} {b:Bool}
def as3 (hm:10000<=m) {l:List TR} (hr:∀t∈l,wB t) {z:Int} {K:dE.T->OR} (h:∀s,PL s->s.length<=40000->(s==[]) = !pP l z->Wp (K (s,())) Q):Wp (ur (T m) b (l.map cR) z K) Q:=by
 cases qu:pP l z with
 | false=>
  obtain⟨m,rfl⟩:=bT (show 1<=m by omega);refine bI P1 (jk (Hq (x0:=b) (l:=l) z m (by omega)) rfl ?_);rw[qu];exact cF rfl (aB (aH rfl (h [] vG (by simp) (by rw[qu];rfl))))
 | true=>
  obtain⟨t,ok,ha,_,aY⟩:=abS hr qu;have hl:l.length<=160:=by
   unfold pP at qu;exact sn (Bool.and_eq_true_iff.1 qu).1
  have tx:=Il ok
  have := aeR b (l.map cR) ok ha (by omega) (n := m) (by omega) (λk hk => by
    have := Hq (x0 := b) (l := l) z k (by omega)
    rw[qu] at this; exact this)
  exact jk (x:=(gf t,())) this rfl (h _ tx.1.pl (by omega) (by rw[qu];exact lI.2 (ae4 ok)))
def aqq (hm:200000000010000<=m) (hM:M<=200000000000000) {b1 b2 b3 b4 b5:Bool} {l:List TR} (hr:∀t∈l,wB t) {z wh wt:Int} {nm ln:BB} {rs:List BB} {ps:List RP} (hp:∀p∈ps,wM M p.ms) {ts:List RT} (ht:∀t∈ts,wM M t.ms) {ns:List Int} (hn:ns.length * 8<=140737488355328) :
  T m 6 [.one (lC (.im b1) 6 (l.map cR)),.one (iC z),.agg [sC nm,lC (.im b2) 1 (rs.map aE),lC (.im b3) 3 (ps.map gI)],.agg [sC ln,lC (.im b4) 3 (ts.map gJ)],.one (lC (.im b5) 1 (ns.map QQ.bN)),.one (iC wh),.one (iC wt)] []=some (.one (bC true),[]):=by
 obtain⟨m,rfl⟩:=bT (show 1<=m by omega);suffices h:Wp _ λv bs=>v = .one (bC true)/\bs=[] by
  obtain⟨v,bs,e,rfl,rfl⟩:=h;exact ahE _ e
 refine aG (iM (akh (n:=m) (by omega)) rfl) (eW rfl (aj (λ_=>aB ⟨rfl,rfl⟩) (λ_=>aj (λ_=>aB ⟨rfl,rfl⟩) (λ_=>aj (λ_=>aB ⟨rfl,rfl⟩) (λ_=>?_)))));obtain⟨r,eN⟩:=bl 1 m;have e0:KU (T m) m m=KU (T m) m (r+1):=by rw[<-eN]
 rw[e0];refine aG amn (ata (m:=m) (by omega) hn λgs pos g0 g1 g2 p0 p1 p2=>?_);refine as3 (m:=m) (by omega) hr λs1 a1 a2 a3=>?_
 refine afv (m:=m) (M:=M) (by omega) hp λs2 q1 q2 q3=>?_
 refine asT (m:=m) (M:=M) (by omega) ht λs3 t1 t2=>?_
 obtain⟨aF,e1,e2,e3⟩:=acP pos p2;obtain⟨⟨v,bs⟩,x,ho,hx,hh⟩:=ag1 (b1:=false) (b2:=true) (b3:=false) (gs:=gs) (aF:=aF) (by omega) g2 (by omega) e3;have e4:aK (whole (pos.map gB))=aF.map fA:=by rw[dZ,e1]
 have pn:aF≠[]:=by
  have:=EP.2 p0;exact EP.1 (by omega)
 dsimp only;rw[e4];refine az (by simp) (asZ (m:=m) (by omega) ho hx (by omega) g2 pn (by omega) e3 hh λs4 c1 c2 c3=>?_);refine N1 (m:=m) (by omega) a1 (by omega) (cF rfl (N1 (m:=m) (by omega) q1 (by omega) (cF rfl (N1 (m:=m) (by omega) t1 (by omega) (cF rfl (N1 (m:=m) (by omega) c1 c2 (cF rfl ?_)))))));refine jk (Hq (x0:=b1) (l:=l) z m (by omega)) rfl (cF (by rw[a3];exact BE _) (az (by simp) (jk (ho m (by omega)) hx (cF (by rw[c3];exact BE _) ?_))));refine jk (adM (m:=m) (M:=M) (by omega) hp) rfl (aB ⟨?_,rfl⟩);show V.one (bC ((s2==[]) == !wU nm rs ps))=_;rw[q3,BE]
end
end
end Go.Proofs.YtfmpdgeiodnnfaaGreatDoor
namespace Go.ax
section
def Hm (P:Program):Nat->List Field->Option Nat
 | o,[]=>some o
 | o,f::t=>if f.offset=o then Hm P (o+P.cellsOf f.type) t else none
def lY (P:Program):Nat->TypeId->Bool
 | 0,_=>false
 | n+1,t=>match P.underlying t with
  | some .bool=>P.cellsOf t==1
  | some (.int _)=>P.cellsOf t==1
  | some .string=>P.cellsOf t==1
  | some (.slice e)=>P.cellsOf t==1&&decide (0 < P.cellsOf e)&&lY P n e
  | some (.struct fs)=>fs.toList.all (λf=>lY P n f.type)&&Hm P 0 fs.toList==some (P.cellsOf t)
  | _=>false
def mapM_mono {α β:Type} {f g:α->Option β}:∀{l:List α} {ys:List β},l.mapM f=some ys->(∀i∈l,∀y,f i=some y->g i=some y)->l.mapM g=some ys
 | [],ys,h,_=>by simpa using h
 | x::l,ys,h,hm=>by
  rw[mM] at h ⊢;obtain⟨y,h1,h2⟩:=bind_some h;obtain⟨t,h3,h4⟩:=bind_some h2;rw[hm x (jD ..) y h1];show (List.mapM g l >>= λbs=>pure (y::bs))=some ys;rw[mapM_mono h3 (λi hi=>hm i (jC _ hi))];exact h4
section
variable {H:Type} {enc:TypeId×Value->H} {P:Program} {W W':World} {rY:Nat->Bool}
def agW (hold:∀B,B < W.heap.size->W'.heap[B]? = W.heap[B]?) {b n:Nat} {a:Addr} {cs:List Value} (h:W.cells? b a n=some cs):W'.cells? b a n=some cs:=by
 unfold World.cells? at h ⊢;split at h
 ·rename_i hb;rw[aP hb];refine mapM_mono h (λi _ y hy=>?_);have af:(a.add i).block < W.heap.size:=by
   unfold World.cell? at hy;split at hy
   ·rename_i hc;exact(lH.1 hc).1
   ·cases hy
  unfold World.cell? at hy ⊢;rw[hold _ af];exact hy
 ·cases h
def agX {b n:Nat} {a:Addr} {cs:List Value} (hn:0 < n) (h:W.cells? b a n=some cs):a.block < W.heap.size:=by
 unfold World.cells? at h;split at h
 ·cases n with
  | zero=>omega
  | succ n=>
   rw[af0,mM] at h;obtain⟨y,h1,_⟩:=bind_some h;unfold World.cell? at h1;split at h1
   ·rename_i hc;exact(lH.1 hc).1
   ·cases h1
 ·cases h
def abO {α β:Type} {f:α->Option β} {g:Nat->α->Option β} (hg:∀a b i y,a<=b->g a i=some y->g b i=some y):∀{l:List α} {ys:List β},l.mapM f=some ys->(∀i∈l,∀y,f i=some y->∃m,g m i=some y)->∃m,l.mapM (g m)=some ys
 | [],ys,h,_=>⟨0,by simpa using h⟩
 | x::l,ys,h,hm=>by
  rw[mM] at h;obtain⟨y,h1,h2⟩:=bind_some h;obtain⟨t,h3,h4⟩:=bind_some h2;obtain⟨m1,k1⟩:=hm x (jD ..) y h1;obtain⟨m2,k2⟩:=abO hg h3 (λi hi=>hm i (jC _ hi));refine⟨max m1 m2,?_⟩;rw[mM,hg m1 _ x y (Nat.le_max_left ..) k1];show (List.mapM (g (max m1 m2)) l >>= λbs=>pure (y::bs))=some ys;rw[mapM_mono k2 (λi _ y hy=>hg m2 _ i y (Nat.le_max_right ..) hy)];exact h4
def asr (hold:∀B,B < W.heap.size->W'.heap[B]? = W.heap[B]?) (uL:∀b,b < W.heap.size->rY b=true):∀(n:Nat) (t:TypeId) (fuel:Nat) (cs:List Value) (x:DataW H×List MemPlace),lY P n t=true->
  DataW.trod enc P W 0 (λ_=>true) true fuel t cs=some x->∃m,DataW.trod enc P W' 0 rY true m t cs=some x:=by
 intro n;induction n with
 | zero=>intro t fuel cs x hs;simp[lY] at hs
 | succ n ih=>
  intro t fuel cs x hs h;simp only[lY] at hs;split at hs
  ·rename_i hu;cases fuel with
   | zero=>simp[DataW.trod] at h
   | succ fuel=>
    refine⟨1,?_⟩;rw[DataW.trod_step] at h ⊢;unfold DataW.trodStep at h ⊢;simp only[hu] at h ⊢;split at h<;>simp_all
  ·rename_i hu;cases fuel with
   | zero=>simp[DataW.trod] at h
   | succ fuel=>
    refine⟨1,?_⟩;rw[DataW.trod_step] at h ⊢;unfold DataW.trodStep at h ⊢;simp only[hu] at h ⊢;split at h<;>simp_all
  ·rename_i hu;cases fuel with
   | zero=>simp[DataW.trod] at h
   | succ fuel=>
    refine⟨1,?_⟩;rw[DataW.trod_step] at h ⊢;unfold DataW.trodStep at h ⊢;simp only[hu] at h ⊢;split at h<;>simp_all
  ·rename_i e hu;simp only[cI,gX] at hs;obtain⟨⟨_,FR⟩,mu⟩:=hs;rcases Go.Deep.open_slice hu h with⟨rfl,rfl⟩ | ⟨a,len,cap,m,k,Dd,Pl,rfl,hb,hl,hm,Gj,rfl,hx⟩
   ·refine⟨1,?_⟩;rw[DataW.trod_step];unfold DataW.trodStep;simp only[hu]
   ·have Gi:m=cap:=by simpa using Gj
    subst Gi;have fF:∀i,i < m->∃cs n,W'.cells? 0 (a.add (i * P.cellsOf e)) (P.cellsOf e)=some cs/\DataW.trod enc P W' 0 rY true n e cs=some (Dd i,Pl i):=by
     intro i hi;obtain⟨dQ,h1,h2⟩:=hx i hi;obtain⟨m',h3⟩:=ih e k dQ _ mu h2;exact⟨dQ,m',agW hold h1,h3⟩
    cases mq:rY a.block with
    | true=>exact Go.Deep.shut_slice_whole_cells hu hb hl hm mq Dd Pl fF
    | false=>
     have xX:m=0:=by
      rcases Oa m with h0 | h0
      ·exact h0
      ·obtain⟨dQ,h1,_⟩:=hx 0 h0;have:=uL _ (agX FR h1);have e1:(a.add (0 * P.cellsOf e)).block=a.block:=by first | rfl | (unfold Addr.add;split<;>rfl) | (unfold Addr.add;simp)
       rw[e1,mq] at this;cases this
     subst xX;obtain rfl:len=0:=by omega
     exact Go.Deep.shut_slice_cells hu hb hl hm mq Dd Pl (λi hi=>by omega)
  ·rename_i fs hu;simp only[cI,gY] at hs;cases fuel with
   | zero=>simp[DataW.trod] at h
   | succ fuel=>
    rw[DataW.trod_step] at h;unfold DataW.trodStep at h;simp only[hu] at h;split at h
    ·rename_i hl;obtain⟨xs,h1,h2⟩:=bK h;obtain⟨m,h3⟩:=abO (g:=λm (f:Field)=>DataW.trod enc P W' 0 rY true m f.type ((cs.drop f.offset).take (P.cellsOf f.type))) (λa b i y mj hy=>DataW.trod_le mj hy) h1 (λf hf y hy=>ih f.type fuel _ y (hs.1 f hf) hy);refine⟨m+1,?_⟩;rw[DataW.trod_step];unfold DataW.trodStep;simp only[hu];rw[aP hl,h3,h2];rfl
    ·cases h
  ·cases hs
end
end
section
mutual
def gK {H:Type} (P:Program):Nat->TypeId->DataW H->Option (List D)
 | 0,_,_=>none
 | n+1,t,d=>match P.underlying t,d with
  | some .bool,.lit (.bool b)=>some [.bool b]
  | some (.int _),.lit (.int k z)=>some [.int k z]
  | some .string,.lit (.string l)=>some [.str l]
  | some (.slice e),.nil=>some [.sl (.im true) (P.cellsOf e) []]
  | some (.slice e),.slice elems _=>(elems.mapM (gK P n e)).map λrows=>[.sl (.im false) (P.cellsOf e) rows]
  | some (.struct fs),.agg ds=>qf P n fs.toList ds
  | _,_=>none
def qf {H:Type} (P:Program):Nat->List Field->List (DataW H)->Option (List D)
 | _,[],[]=>some []
 | n,f::fs,d::ds=>(gK P n f.type d).bind λx=>(qf P n fs ds).map (x ++ ·)
 | _,_,_=>none
end
section
variable {H:Type} {enc:TypeId×Value->H} {P:Program} {W:World} {L:aw}
def X1 {b n:Nat} {a:Addr} {cs:List Value} (h:W.cells? b a n=some cs):cs.length=n/\∀j,j < n->W.cell? (a.add j)=cs[j]?:=by
 unfold World.cells? at h;split at h
 ·have hl:∀(l:List Nat) (ys:List Value),l.mapM (λi=>W.cell? (a.add i))=some ys->ys.length=l.length/\∀(j:Nat) i,l[j]? = some i->W.cell? (a.add i)=ys[j]?:=by
   intro l;induction l with
   | nil=>
    intro ys hy;have:ys=[]:=by simpa using hy.symm
    subst this;exact⟨rfl,λj i hj=>by simp at hj⟩
   | cons x l ih=>
    intro ys hy;rw[mM] at hy;obtain⟨y,h1,h2⟩:=bind_some hy;obtain⟨t,h3,h4⟩:=bind_some h2;cases h4;obtain⟨g1,g2⟩:=ih t h3;refine⟨by simp[g1],λj i hj=>?_⟩;cases j with
    | zero=>simp at hj;subst hj;simpa using h1
    | succ j=>simpa using g2 j i (by simpa using hj)
  obtain⟨h1,h2⟩:=hl _ _ h;refine⟨by simpa using h1,λj hj=>h2 j j (by simp[hj])⟩
 ·cases h
def XY {a:Addr} {u:Value} (h:W.cell? a=some u):a.spot=none/\∃cur e fz,W.heap[a.block]? = some (.cells cur e fz)/\cur[a.off]? = some u:=by
 unfold World.cell? at h;split at h
 ·rename_i c e fz hc;split at h
  ·cases h
  ·rename_i hs;refine⟨by simpa using hs,c,e,fz,hc,h⟩
 ·cases h
def ug (W:World) (L:aw) (l:List D) (cs:List Value):Prop:=l.length=cs.length/\∀(j:Nat) y u,l[j]? = some y->cs[j]? = some u->fK W L y u
def ug.app {l l':List D} {cs dQ:List Value} (h:ug W L l cs) (h':ug W L l' dQ):ug W L (l++l') (cs++dQ):=by
 refine⟨by simp[h.1,h'.1],λj y u hy hu=>?_⟩;by_cases hj:j < l.length
 ·rw[nZ hj] at hy;rw[nZ (by rw[<-h.1];exact hj)] at hu;exact h.2 j y u hy hu
 ·rw[qP (by omega)] at hy;rw[qP (by rw[<-h.1];omega),<-h.1] at hu;exact h'.2 _ y u hy hu
def Y9 {n fuel:Nat} (ih:∀(t:TypeId) (cs:List Value) (x:DataW H×List MemPlace),lY P n t=true->DataW.trod enc P W 0 (λ_=>true) true fuel t cs=some x->∃l,gK P n t x.1=some l/\ug W L l cs/\cs.length=P.cellsOf t) (cs:List Value) :
  ∀(fl:List Field) (o e:Nat) {xs:List (DataW H×List MemPlace)},Hm P o fl=some e->(∀f∈fl,lY P n f.type=true)->cs.length=e->(fl.mapM λf=>DataW.trod enc P W 0 (λ_=>true) true fuel f.type ((cs.drop f.offset).take (P.cellsOf f.type)))=some xs->
   ∃l,qf P n fl (xs.map (·.1))=some l/\ug W L l (cs.drop o)
 | [],o,e,xs,h,_,hl,hx=>by
  simp only[Hm,au] at h;have:xs=[]:=by simpa using hx.symm
  subst this;refine⟨[],by simp[qf],?_,λj y u hy=>by simp at hy⟩;simp;omega
 | f::fl,o,e,xs,h,hs,hl,hx=>by
  simp only[Hm] at h;split at h
  ·rename_i ho;rw[mM] at hx;obtain⟨y,h1,h2⟩:=bind_some hx;obtain⟨t,h3,h4⟩:=bind_some h2;cases h4;obtain⟨l1,k1,k2,k3⟩:=ih _ _ _ (hs f (jD ..)) h1;obtain⟨l2,k4,k5⟩:=Y9 ih cs fl _ e h (λg hg=>hs g (jC _ hg)) hl h3;refine⟨l1++l2,by simp[qf,k1,k4],?_⟩;have:=k2.app k5;rw[ho,<-V7,VJ] at this;exact this
  ·cases h
def asq (hL:∀B cur e fz,W.heap[B]? = some (.cells cur e fz)->L B=some .bg):∀(n:Nat) (fuel:Nat) (t:TypeId) (cs:List Value) (x:DataW H×List MemPlace),lY P n t=true->
  DataW.trod enc P W 0 (λ_=>true) true fuel t cs=some x->∃l,gK P n t x.1=some l/\ug W L l cs/\cs.length=P.cellsOf t:=by
 intro n;induction n with
 | zero=>intro fuel t cs x hs;simp[lY] at hs
 | succ n ih=>
  intro fuel t cs x hs h;simp only[lY] at hs;have one:∀{y:D} {u:Value},fK W L y u->ug W L [y] [u]:=by
   intro y u hr;refine⟨rfl,λj y' u' h1 h2=>?_⟩;cases j with
   | zero=>simp at h1 h2;subst h1;subst h2;exact hr
   | succ j=>simp at h1
  cases fuel with
  | zero=>simp[DataW.trod] at h
  | succ fuel=>
  split at hs
  ·rename_i hu;simp only[kv] at hs;rw[DataW.trod_step] at h;unfold DataW.trodStep at h;rw[hu] at h;have:∃b,cs=[.bool b]/\x=(.lit (.bool b),[]):=by
    rcases cs with _ | ⟨c,_ | ⟨c2,t⟩⟩
    ·simp at h
    ·cases c<;>simp at h;exact⟨_,rfl,h.symm⟩
    ·simp at h
   obtain⟨b,rfl,rfl⟩:=this;exact⟨[.bool b],by simp[gK,hu],one .bool,by simp[hs]⟩
  ·rename_i k hu;simp only[kv] at hs;rw[DataW.trod_step] at h;unfold DataW.trodStep at h;rw[hu] at h;have:∃z,cs=[.int k z]/\x=(.lit (.int k z),[]):=by
    rcases cs with _ | ⟨c,_ | ⟨c2,t⟩⟩
    ·simp at h
    ·cases c<;>simp at h;obtain⟨⟨rfl,_⟩,h⟩:=h;exact⟨_,rfl,h.symm⟩
    ·simp at h
   obtain⟨z,rfl,rfl⟩:=this;exact⟨[.int k z],by simp[gK,hu],one .int,by simp[hs]⟩
  ·rename_i hu;simp only[kv] at hs;rw[DataW.trod_step] at h;unfold DataW.trodStep at h;rw[hu] at h;have:∃z:ByteArray,cs=[.string z]/\x=(.lit (.string z.data.toList),[]):=by
    rcases cs with _ | ⟨c,_ | ⟨c2,t⟩⟩
    ·simp at h
    ·cases c<;>simp at h;exact⟨_,rfl,h.2.symm⟩
    ·simp at h
   obtain⟨z,rfl,rfl⟩:=this;refine⟨[.str z.data.toList],by simp[gK,hu],one ?_,by simp[hs]⟩;exact .str
  ·rename_i e hu;simp only[cI,gX,kv] at hs;obtain⟨⟨dM,FR⟩,mu⟩:=hs;rcases Go.Deep.open_slice hu h with⟨rfl,rfl⟩ | ⟨a,len,cap,m,k,Dd,Pl,rfl,hb,hl,hm,Gj,rfl,hx⟩
   ·exact⟨[.sl (.im true) (P.cellsOf e) []],by simp[gK,hu],one .nil,by simp[dM]⟩
   ·have Gi:m=cap:=by simpa using Gj
    subst Gi;have vX:∀i,i < m->∃dQ l,W.cells? 0 (a.add (i * P.cellsOf e)) (P.cellsOf e)=some dQ/\gK P n e (Dd i)=some l/\ug W L l dQ/\dQ.length=P.cellsOf e:=by
     intro i hi;obtain⟨dQ,h1,h2⟩:=hx i hi;obtain⟨l,k1,k2,k3⟩:=ih k e dQ _ mu h2;exact⟨dQ,l,h1,k1,k2,k3⟩
    let R:Nat->List D:=λi=>(gK P n e (Dd i)).getD []
    have wj:(((List.range len).map Dd).mapM (gK P n e))=some ((List.range len).map R):=by
     have:∀(l:List Nat),(∀i∈l,i < m)->((l.map Dd).mapM (gK P n e))=some (l.map R):=by
      intro l;induction l with
      | nil=>intro _;rfl
      | cons i l ihl=>
       intro hi;obtain⟨_,r,_,k1,_⟩:=vX i (hi i (jD ..));rw[e9,mM,k1];show (List.mapM (gK P n e) (l.map Dd) >>= λbs=>pure (r::bs))=_;rw[ihl (λi h=>hi i (jC _ h))];simp[R,k1]
     exact this _ (λi hi=>by have:=vu.1 hi;omega)
    refine⟨[.sl (.im false) (P.cellsOf e) ((List.range len).map R)],by simp[gK,hu,wj],one ?_,by simp[dM]⟩;by_cases rj:len=0
    ·subst rj;exact .mE
    ·
     obtain⟨gZ,l0,h1,_,_,_⟩:=vX 0 (by omega);obtain⟨g1,g2⟩:=X1 h1;have hc:=g2 0 FR;obtain⟨u0,s9⟩:∃u,gZ[0]? = some u:=⟨gZ[0]'(by rw[g1];exact FR),kI _⟩
     rw[s9] at hc;obtain⟨uL,cur,te,fz,hB,_⟩:=XY hc;have ha0:((a.add (0 * P.cellsOf e)).add 0)=a:=by simp[Addr.add]
     rw[ha0] at uL hB;obtain⟨B,o,sp⟩:=a;simp only at uL hB;subst uL;have vZ:∀i c,i < m->c < P.cellsOf e->∃dQ l,gK P n e (Dd i)=some l/\ug W L l dQ/\dQ.length=P.cellsOf e/\cur[o+i * P.cellsOf e+c]? = dQ[c]?:=by
      intro i c hi cZ;obtain⟨dQ,l,q1,q2,q3,q4⟩:=vX i hi;refine⟨dQ,l,q2,q3,q4,?_⟩;have q5:=(X1 q1).2 c cZ;obtain⟨u,kb⟩:∃u,dQ[c]? = some u:=⟨dQ[c]'(by rw[q4];exact cZ),kI _⟩
      rw[kb] at q5 ⊢;obtain⟨_,ei,te',xS,r1,r2⟩:=XY q5;rw[pj,pj] at r1 r2;rw[hB] at r1;cases r1;exact r2
     have gn:∀i c y,cellOf ((List.range len).map R) i c=some y->i < m/\c < P.cellsOf e/\∃u,cur[o+i * P.cellsOf e+c]? = some u/\fK W L y u:=by
      intro i c y hy;obtain⟨r,hr,rk⟩:=kM.1 hy;rw[bQ] at hr;obtain⟨i',uG,rfl⟩:=bK hr;have jn:i < len:=by
       have:=(cd.1 uG).1;simpa using this
      have hii:i'=i:=by simp[jn] at uG;exact uG.symm
      subst hii;obtain⟨cs1,l1,t1,t2,t3,t4⟩:=vX i' (by omega);have hR:R i'=l1:=by simp[R,t2]
      rw[hR] at rk;have cZ:c < P.cellsOf e:=by rw[<-t4,<-t3.1];exact(cd.1 rk).1
      obtain⟨Fk,l2,s1,s2,s3,s4⟩:=vZ i' c (by omega) cZ;rw[t2] at s1;cases s1;obtain⟨u,kb⟩:∃u,Fk[c]? = some u:=⟨Fk[c]'(by rw[s3];exact cZ),kI _⟩
      exact⟨by omega,cZ,u,s4.trans kb,s2.2 c y u rk kb⟩
     have iu:((List.range len).map R).length=len:=by simp
     have:=@fK.pl W L (P.cellsOf e) ((List.range len).map R) B o m cur te fz (λi c=>cur.getD (o+i * P.cellsOf e+c) undef) (by intro h;rw[h] at iu;simp at iu;omega) FR (by rw[iu];exact hl) (hL B cur te fz hB) hB ?_ ?_ ?_
     ·rw[iu] at this;exact this
     ·intro r hr;obtain⟨i,hi,rfl⟩:=kJ.1 hr;have jn:=vu.1 hi;obtain⟨cs1,l1,t1,t2,t3,t4⟩:=vX i (by omega);have hR:R i=l1:=by simp[R,t2]
      rw[hR,t3.1,t4]
     ·intro i c y hy;obtain⟨_,_,u,h1,_⟩:=gn i c y hy;rw[h1,jW,h1];rfl
     ·intro i c y hy;obtain⟨_,_,u,h1,h2⟩:=gn i c y hy;rw[jW,h1];exact h2
  ·rename_i fs hu;simp only[cI,gY,kv] at hs;rw[DataW.trod_step] at h;unfold DataW.trodStep at h;simp only[hu] at h;split at h
   ·rename_i hl;obtain⟨xs,h1,h2⟩:=bK h;subst h2;obtain⟨l,k1,k2⟩:=Y9 (λt cs x=>ih fuel t cs x) cs fs.toList 0 _ hs.2 hs.1 hl h1;exact⟨l,by simp[gK,hu,k1],by simpa using k2,hl⟩
   ·cases h
  ·cases hs
end
end
section
def po (P:Program) (t:TypeId) (l:List D):V:=
 match P.underlying t with
 | some (.struct _)=>.agg (l.map .d)
 | _=>.one (.d (l.headD .dead))
def zy {H:Type} (P:Program) (n:Nat):List TypeId->List (DataW H)->Option (List V)
 | [],[]=>some []
 | t::ts,d::ds=>(gK P n t d).bind λl=>(zy P n ts ds).map (po P t l :: ·)
 | _,_=>none
def tR (W:World):aw:=λB=>match W.heap[B]? with | some (.cells ..)=>some .bg | _=>none
section
variable {H:Type} {enc:TypeId×Value->H} {P:Program} {W W':World} {nm:FuncId->Option Nat} {G:Nat->Option Obj} {Cl:bX}
def aeX {B:Nat} {cur:Array Value} {e:TypeId} {fz:Nat×Nat} (h:W.heap[B]? = some (.cells cur e fz)):tR W B=some .bg:=by simp[tR,h]
def Ex {B:Nat} {l:db} (h:tR W B=some l):l = .bg/\∃cur e fz,W.heap[B]? = some (.cells cur e fz):=by
 unfold tR at h;split at h
 ·rename_i c e fz hc;simp only[au] at h;exact⟨h.symm,c,e,fz,hc⟩
 ·cases h
def agj {n base:Nat} {t:TypeId} {v:Value} {d:DataW H} {ps:List MemPlace} (cH:Value.okWide P W .any base t v) (hs:lY P n t=true) (ht:DataW.Trod enc P W 0 (λ_=>true) true t v d ps) :
  ∃l,gK P n t d=some l/\∀γ k,bJ nm W (tR W) γ k (po P t l) v:=by
 obtain⟨fuel,h⟩:=ht;obtain⟨l,h1,h2,h3⟩:=asq (L:=tR W) (λB cur e fz h=>aeX h) n fuel t _ _ hs h;refine⟨l,h1,λγ k=>?_⟩;have single:P.cellsOf t=1->(∀cs,v≠.agg cs)->(∀fs,P.underlying t≠some (.struct fs))->bJ nm W (tR W) γ k (po P t l) v:=by
  intro hc hna Gn;have hv:v.cells = #[v]:=by cases v<;>first | rfl | exact absurd rfl (hna _)
  have QR:po P t l = .one (.d (l.headD .dead)):=by
   unfold po;split
   ·rename_i hx;exact absurd hx (Gn _)
   ·rfl
  rw[QR];have hl:l.length=1:=by rw[h2.1,h3,hc]
  obtain⟨y,rfl⟩:=N4.1 hl;exact .one (.d (.plain (h2.2 0 y v rfl (by rw[hv];rfl))))
 cases n with
 | zero=>simp[lY] at hs
 | succ n=>
  simp only[lY] at hs;split at hs
  ·rename_i hu;exact single (by simpa using hs) (by rintro cs rfl;simp[Value.okWide,hu,Cell.okWide,Cell.ok] at cH) (by simp[hu])
  ·rename_i hu;exact single (by simpa using hs) (by rintro cs rfl;simp[Value.okWide,hu,Cell.okWide,Cell.ok] at cH) (by simp[hu])
  ·rename_i hu;exact single (by simpa using hs) (by rintro cs rfl;simp[Value.okWide,hu,Cell.okWide,Cell.ok] at cH) (by simp[hu])
  ·rename_i e hu;simp only[cI,kv] at hs;exact single hs.1.1 (by rintro cs rfl;simp[Value.okWide,hu,Cell.okWide,Cell.ok] at cH) (by simp[hu])
  ·rename_i fs hu;unfold Value.okWide at cH;rw[hu] at cH;obtain⟨cs,rfl,_,_⟩:=cH;have QR:po P t l = .agg (l.map .d):=by unfold po;rw[hu]
   rw[QR];have hc:(Value.agg cs).cells.toList=cs.toList:=rfl;rw[hc] at h2;refine .agg (by rw[cX,h2.1,VP]) (λj c u hj kb=>?_);rw[bQ] at hj;obtain⟨y,hy,rfl⟩:=bK hj;exact .d (.plain (h2.2 j y u hy (by simpa using kb)))
  ·cases hs
def OM {n base:Nat}:∀{ts:List TypeId} {vs:List Value} {ds:List (DataW H)} {ps:List MemPlace},DataW.TrodAll enc P W 0 (λ_=>true) true ts vs ds ps->(∀t∈ts,lY P n t=true)->(∀(j:Nat) t v,ts[j]? = some t->vs[j]? = some v->Value.okWide P W .any base t v)->
  ∃l,zy P n ts ds=some l/\l.length=vs.length/\∀(j:Nat) x v,l[j]? = some x->vs[j]? = some v->∀γ k,bJ nm W (tR W) γ k x v
 | [],vs,ds,ps,h,_,_=>by
  cases vs with
  | nil=>
   cases ds with
   | nil=>exact⟨[],rfl,rfl,λj x v h=>by simp at h⟩
   | cons=>simp[DataW.TrodAll] at h
  | cons=>simp[DataW.TrodAll] at h
 | t::ts,vs,ds,ps,h,hs,hv=>by
  cases vs with
  | nil=>simp[DataW.TrodAll] at h
  | cons v vs=>
   cases ds with
   | nil=>simp[DataW.TrodAll] at h
   | cons d ds=>
    obtain⟨p,q,h1,h2,rfl⟩:=h;obtain⟨l,k1,k2⟩:=agj (nm:=nm) (hv 0 t v rfl rfl) (hs t (jD ..)) h1;obtain⟨ls,k3,k4,k5⟩:=OM h2 (λt ht=>hs t (jC _ ht)) (λj t v hj gM=>hv (j+1) t v (by simpa using hj) (by simpa using gM));refine⟨po P t l::ls,by simp[zy,k1,k3],by simp[k4],?_⟩;intro j x u hj hu;cases j with
    | zero=>simp at hj hu;subst hj;subst hu;exact k2
    | succ j=>exact k5 j x u (by simpa using hj) (by simpa using hu)
def asg {l:List V} {args:Array Value} (hl:l.length=args.size) (h:∀(j:Nat) x v,l[j]? = some x->args[j]? = some v->∀γ k,bJ nm W (tR W) γ k x v) :
  Rel nm l.length (gk 0 l++dm 0 []) ⟨args,[]⟩ W (tR W):=by
 have hE:∀k,(∀j,k≠.s j)->(gk 0 l++dm 0 []:St).E k=V.dead:=by
  intro k hk;have:(gk 0 l++dm 0 []:St).E k=(dm 0 []:St).E k:=by
   unfold St.E;rw[pk];cases k<;>first | rfl | exact absurd rfl (hk _)
  rw[this,px];cases k with
  | r x=>cases x<;>rfl
  | b x c=>cases x<;>rfl
  | _=>rfl
 refine⟨hl.symm,rfl,?_,?_,?_,?_,?_,?_,?_,?_⟩
 ·intro i;have hs:(gk 0 l++dm 0 []:St).E (.s i)=if i < l.length then l.getD i V.dead else V.dead:=by
   unfold St.E;rw[pk];simp only[EK,nD,cQ,xp];split
   ·rfl
   ·rw[pv];rfl
  rw[hs];split
  ·rename_i hi;have wa:i < args.size:=by omega
   have:=h i (l.getD i V.dead) args[i] (getD_some hi) (by simp[wa]) (gk 0 l++dm 0 []:St).γ (.s i);simpa[Array.getD,wa] using this
  ·exact .one .dead
 ·intro r c x hx gp;rw[hE _ (by intro j h;cases h)] at hx;simp only[V.dead,V.one.injEq] at hx;exact absurd hx.symm gp
 ·intro r c;rw[hE _ (by intro j h;cases h)];exact⟨_,rfl⟩
 ·intro r c _;rw[hE _ (by intro j h;cases h)];rfl
 ·intro r _ hr;rw[hE _ (by intro j h;cases h)] at hr;simp[V.dead,cr] at hr
 ·intro B l hB;obtain⟨_,_,_,h⟩:=(Ex hB).2;exact(lH.1 h).1
 ·intro B B' pl o o' hB;have:=(Ex hB).1;cases this
 ·intro B B' r o o' hB;have:=(Ex hB).1;cases this
structure Left (W W':World):Prop where
 os:W'.os=W.os
 output:W'.output=W.output
 heap:∀B,B < W.heap.size->W'.heap[B]? = W.heap[B]?
def apc (hO:E1 P nm G Cl) (FI:∀B c,G B=some c->W.heap[B]? = some c/\∃cur e fz,c = .cells cur e fz) {cj:FuncId} {f0:Nat} {g:Func} {c:Code} (jJ:nm cj=some f0) (hf:P.funcs[cj]? = some g) (mo:(g.name == "runtime.NumGoroutine")=false) (hb:g.body=some c)
  {n base:Nat} {ts:List TypeId} {args:Array Value} {ds:List (DataW H)} {ps:List MemPlace} (hA:DataW.TrodAll enc P W 0 (λ_=>true) true ts args.toList ds ps)
  (hs:∀t∈ts,lY P n t=true) (cH:∀(j:Nat) t v,ts[j]? = some t->args[j]? = some v->Value.okWide P W .any base t v)
  {b:Bool} (heq:∀l,zy P n ts ds=some l->∃out,Cl f0 l []=some (.one (.d (.bool b)),out)) :
  Calls P cj args W λe W'=>e = .returned (.bool b)/\Left W W':=by
 obtain⟨l,h1,h2,h3⟩:=OM (nm:=nm) hA hs (λj t v hj hv=>cH j t v hj (by simpa using hv));obtain⟨out,h4⟩:=heq l h1;have R:=asg (W:=W) (nm:=nm) (l:=l) (args:=args) (by rw[h2];simp) (λj x v hj hv=>h3 j x v hj (by simpa using hv));have hF:=hO h4 jJ R (λB q o hB=>by have:=(Ex hB).1;cases this) (λB c hB=>by obtain⟨h1,cur,e,fz,rfl⟩:=FI B c hB;exact⟨aeX h1,h1⟩) (λB i o hB=>by have:=(Ex hB).1;cases this);have Gl:¬ g.name = "runtime.NumGoroutine" := by simpa using mo
 have jr:(callFunc cj args).run P W = .ok (.enter cj args) W:=by simp[callFunc,hf,Gl,hb]
 unfold jY at hF;rw[jr] at hF;refine Calls.mono hF ?_;rintro e W' ⟨v,rfl,L',hm,_,hv⟩;have De:v = .bool b:=hv.cB.sH;subst De;refine⟨rfl,hm.os,hm.output,λB hB=>?_⟩;cases hL:tR W B with
 | none=>exact(hm.none B hB hL).2
 | some l=>
  obtain⟨rfl,_⟩:=Ex hL;exact(hm.bg B hL).2
def ae0 {n:Nat} {rY:Nat->Bool} (hold:∀B,B < W.heap.size->W'.heap[B]? = W.heap[B]?) (uL:∀b,b < W.heap.size->rY b=true):∀{ts:List TypeId} {vs:List Value} {ds:List (DataW H)} {ps:List MemPlace},
  (∀t∈ts,lY P n t=true)->DataW.TrodAll enc P W 0 (λ_=>true) true ts vs ds ps->DataW.TrodAll enc P W' 0 rY true ts vs ds ps
 | [],vs,ds,ps,_,h=>by
  cases vs<;>cases ds<;>simp_all[DataW.TrodAll]
 | t::ts,vs,ds,ps,hs,h=>by
  cases vs with
  | nil=>simp[DataW.TrodAll] at h
  | cons v vs=>
   cases ds with
   | nil=>simp[DataW.TrodAll] at h
   | cons d ds=>
    obtain⟨p,q,⟨fuel,h1⟩,h2,rfl⟩:=h;obtain⟨m,h3⟩:=asr hold uL n t fuel _ _ (hs t (jD ..)) h1;exact⟨p,q,⟨m,h3⟩,ae0 hold uL (λt ht=>hs t (jC _ ht)) h2,rfl⟩
def ape {f:Func} {s:ChangeSpec} {apart fresh handsOn again:Bool} {args:Array Value} {ds gs:List (DataW H)} {before:List MemPlace} {n:Nat} {b:Bool} {tb:TypeId}
  (hW:DataW.Whole enc P f.params.toList s.vars apart W args.toList ds gs before) (RZ:s.vars=[]) (hs:∀t∈f.params.toList,lY P n t=true)
  (hr:f.resultTypes = #[tb]) (htb:P.underlying tb=some .bool) (RI:(s.fn H (ds++gs)).results=[.lit (.bool b)]) (sV:(s.fn H (ds++gs)).args=ds) (hgv:(s.fn H (ds++gs)).vars=[])
  (hl:Left W W'):s.post enc P f apart fresh handsOn again W args (.bool b) W':=by
 have JV:=hW;obtain⟨p,q,hA,hV,rfl,hz,hn⟩:=hW;rw[RZ] at hV;have hq:q=[]/\gs=[]:=by
  cases gs with
  | nil=>exact⟨by simpa[DataW.TrodVars] using hV,rfl⟩
  | cons=>simp[DataW.TrodVars] at hV
 obtain⟨rfl,rfl⟩:=hq;have af:∀p'∈p++[],p'.block < W.heap.size:=λp' hp=>JV.lt p' hp
 have aaH:=λ(rY:Nat->Bool) (uL:∀b,b < W.heap.size->rY b=true)=>ae0 (rY:=rY) hl.heap uL hs hA
 have adz:∀(bb:Nat) (sp:Nat->Bool) (hd:Bool),DataW.TrodAll enc P W' bb sp hd f.resultTypes.toList ((Value.bool b).resultList f.resultTypes.size) [.lit (.bool b)] []:=by
  intro bb sp hd;rw[hr];exact⟨[],[],⟨1,by simp[DataW.trod,Value.cells,htb]⟩,rfl,rfl⟩
 have iI:∀sp,DataW.TrodVars enc P W' sp s.vars (s.fn H (ds++[])).vars []:=by
  intro sp;rw[RZ,hgv];rfl
 refine⟨ds,[],p++[],[],p,[],JV,?_,?_,iI _,?_,λ_=>⟨?_,?_⟩⟩
 ·rw[RI];exact adz _ _ _
 ·rw[sV];exact aaH _ (λb hb=>by simpa using hb)
 ·refine⟨hl.os,hl.output,λi hi=>?_⟩;rw[hl.heap i hi];split
  ·rename_i h1 h2;rw[h1] at h2;cases h2;exact⟨rfl,rfl,rfl,λ_ _=>rfl⟩
  ·rename_i h1 h2;rw[h1] at h2;cases h2;exact .inr ⟨rfl,rfl⟩
  ·rfl
 ·intro j t r h1 h2;rw[hr] at h1 h2;cases j with
  | zero=>
   simp[Value.resultList] at h1 h2;subst h1;subst h2;simp[Value.okWide,htb,Cell.okWide,Cell.ok]
  | succ j=>simp[Value.resultList] at h2
 ·have akL:=Go.ChangeShapes.trodAll_append (aaH (λ_=>true) (λ_ _=>rfl)) (adz 0 (λ_=>true) true);refine⟨_,[],_,⟨_,[],akL,(by rw[RZ];rfl),rfl,?_,?_⟩,?_⟩
  ·intro b' off hp;have C0:MemPlace.cell b' off∈p++[]:=by simpa using hp
   have c6:=hz b' off C0;have hb:=af _ C0;have vT:b' < W.heap.size:=hb;unfold World.frozen? at c6 ⊢;simp only at c6 ⊢;rw[hl.heap b' vT];exact c6
  ·intro ha;have:=hn ha;simpa using this
  ·intro p' hp _;simpa using hp
end
end
section
inductive TS where
 | int (k:IntKind)
 | bool
 | str
 | sl (sz:Nat) (l:List TS)
mutual
def tA:TS->D->Prop
 | .int k,.int k' n=>k'=k/\(Lit.int k n).wf=true
 | .bool,.bool _=>True
 | .str,.str _=>True
 | .sl sz ts,.sl (.im b) da rows=>da=sz/\(b=true->rows=[])/\∀r∈rows,ju ts r
 | _,_=>False
def ju:List TS->List D->Prop
 | [],[]=>True
 | t::ts,x::r=>tA t x/\ju ts r
 | _,_=>False
end
def aca:∀{ts us:List TS} {r q:List D},ju ts r->ju us q->ju (ts++us) (r++q)
 | [],us,[],q,_,h=>h
 | t::ts,us,x::r,q,h,h'=>by
  simp only[ju,sr] at h ⊢;exact⟨h.1,aca h.2 h'⟩
 | [],_,_::_,_,h,_=>absurd h (by simp[ju])
 | _::_,_,[],_,h,_=>absurd h (by simp[ju])
def Ik (f:TypeId->Option (List TS)):List Field->Option (List TS)
 | []=>some []
 | x::t=>(f x.type).bind λa=>(Ik f t).map (a ++ ·)
def Bn (P:Program):Nat->TypeId->Option (List TS)
 | 0,_=>none
 | n+1,t=>match P.underlying t with
  | some .bool=>some [.bool]
  | some (.int k)=>some [.int k]
  | some .string=>some [.str]
  | some (.slice e)=>(Bn P n e).map λl=>[.sl (P.cellsOf e) l]
  | some (.struct fs)=>Ik (Bn P n) fs.toList
  | _=>none
section
variable {H:Type} {enc:TypeId×Value->H} {P:Program} {W:World}
def aci {n fuel:Nat} {cs:List Value} (ih:∀(t:TypeId) (cs:List Value) (x:DataW H×List MemPlace) l ts,DataW.trod enc P W 0 (λ_=>true) true fuel t cs=some x->gK P n t x.1=some l->Bn P n t=some ts->ju ts l) :
  ∀(fl:List Field) {xs:List (DataW H×List MemPlace)} {l:List D} {ts:List TS},(fl.mapM λf=>DataW.trod enc P W 0 (λ_=>true) true fuel f.type ((cs.drop f.offset).take (P.cellsOf f.type)))=some xs->
   qf P n fl (xs.map (·.1))=some l->Ik (Bn P n) fl=some ts->ju ts l
 | [],xs,l,ts,hx,hl,ht=>by
  have:xs=[]:=by simpa using hx.symm
  subst this;simp[qf] at hl;simp[Ik] at ht;subst hl;subst ht;trivial
 | f::fl,xs,l,ts,hx,hl,ht=>by
  rw[mM] at hx;obtain⟨y,h1,h2⟩:=bind_some hx;obtain⟨t,h3,h4⟩:=bind_some h2;cases h4;simp only[e9,qf] at hl;obtain⟨l1,k1,k2⟩:=bind_some hl;obtain⟨l2,k3,rfl⟩:=bK k2;simp only[Ik] at ht;obtain⟨t1,j1,j2⟩:=bind_some ht;obtain⟨t2,j3,rfl⟩:=bK j2;exact aca (ih _ _ _ _ _ h1 k1 j1) (aci ih fl h3 k3 j3)
def mapM_mem {α β:Type} {f:α->Option β}:∀{l:List α} {r:List β},l.mapM f=some r->∀y∈r,∃x∈l,f x=some y
 | [],r,h,y,hy=>by
  have:r=[]:=by simpa using h.symm
  subst this;cases hy
 | x::t,r,h,y,hy=>by
  rw[mM] at h;obtain⟨a,h1,h2⟩:=bind_some h;obtain⟨b,h3,h4⟩:=bind_some h2;cases h4;rcases ik.1 hy with rfl | hy
  ·exact⟨x,jD ..,h1⟩
  ·obtain⟨z,hz,hf⟩:=mapM_mem h3 y hy;exact⟨z,jC _ hz,hf⟩
def ap1:∀(n fuel:Nat) (t:TypeId) (cs:List Value) (x:DataW H×List MemPlace) (l:List D) (ts:List TS),
  DataW.trod enc P W 0 (λ_=>true) true fuel t cs=some x->gK P n t x.1=some l->Bn P n t=some ts->ju ts l:=by
 intro n;induction n with
 | zero=>intro fuel t cs x l ts _ h;simp[gK] at h
 | succ n ih=>
  intro fuel t cs x l ts h hd ht;cases fuel with
  | zero=>simp[DataW.trod] at h
  | succ fuel=>
  simp only[Bn] at ht;split at ht
  ·rename_i hu;cases ht;rw[DataW.trod_step] at h;unfold DataW.trodStep at h;rw[hu] at h;have:∃b,cs=[.bool b]/\x=(.lit (.bool b),[]):=by
    rcases cs with _ | ⟨c,_ | ⟨c2,t⟩⟩
    ·simp at h
    ·cases c<;>simp at h;exact⟨_,rfl,h.symm⟩
    ·simp at h
   obtain⟨b,rfl,rfl⟩:=this;simp[gK,hu] at hd;subst hd;exact⟨trivial,trivial⟩
  ·rename_i k hu;cases ht;rw[DataW.trod_step] at h;unfold DataW.trodStep at h;rw[hu] at h;have:∃z,cs=[.int k z]/\(Lit.int k z).wf=true/\x=(.lit (.int k z),[]):=by
    rcases cs with _ | ⟨c,_ | ⟨c2,t⟩⟩
    ·simp at h
    ·cases c<;>simp at h;obtain⟨⟨rfl,hw⟩,h⟩:=h;exact⟨_,rfl,hw,h.symm⟩
    ·simp at h
   obtain⟨z,rfl,hw,rfl⟩:=this;simp[gK,hu] at hd;subst hd;exact⟨⟨rfl,hw⟩,trivial⟩
  ·rename_i hu;cases ht;rw[DataW.trod_step] at h;unfold DataW.trodStep at h;rw[hu] at h;have:∃z:ByteArray,cs=[.string z]/\x=(.lit (.string z.data.toList),[]):=by
    rcases cs with _ | ⟨c,_ | ⟨c2,t⟩⟩
    ·simp at h
    ·cases c<;>simp at h;exact⟨_,rfl,h.2.symm⟩
    ·simp at h
   obtain⟨z,rfl,rfl⟩:=this;simp[gK,hu] at hd;subst hd;exact⟨trivial,trivial⟩
  ·rename_i e hu;obtain⟨te,he,rfl⟩:=bK ht;rcases Go.Deep.open_slice hu h with⟨rfl,rfl⟩ | ⟨a,len,cap,m,k,Dd,Pl,rfl,hb,hl,hm,Gj,rfl,hx⟩
   ·simp[gK,hu] at hd;subst hd;exact⟨⟨rfl,λ_=>rfl,λr hr=>by cases hr⟩,trivial⟩
   ·have Gi:m=cap:=by simpa using Gj
    subst Gi;unfold gK at hd;rw[hu] at hd;simp only at hd;obtain⟨rows,h1,rfl⟩:=bK hd;refine⟨⟨rfl,λhb=>(by cases hb),λr hr=>?_⟩,trivial⟩;obtain⟨d,dD,hf⟩:=mapM_mem h1 r hr;obtain⟨i,hi,rfl⟩:=kJ.1 dD;have jn:=vu.1 hi;obtain⟨dQ,_,h2⟩:=hx i (by omega);exact ih k e dQ _ _ _ h2 hf he
  ·rename_i fs hu;rw[DataW.trod_step] at h;unfold DataW.trodStep at h;rw[hu] at h;simp only at h;split at h
   ·obtain⟨xs,h1,rfl⟩:=bK h;unfold gK at hd;rw[hu] at hd;simp only at hd;exact aci (λt cs x l ts h1 h2 h3=>ih fuel t cs x l ts h1 h2 h3) fs.toList h1 hd ht
   ·cases h
  ·cases ht
def MJ:List (List TS)->List (List D)->Prop
 | [],[]=>True
 | ts::t,r::l=>ju ts r/\MJ t l
 | _,_=>False
def E9 (P:Program):List TypeId->List (List D)->List V
 | t::ts,r::rs=>po P t r::E9 P ts rs
 | _,_=>[]
def EA (P:Program) (n:Nat):List TypeId->Option (List (List TS))
 | []=>some []
 | t::ts=>(Bn P n t).bind λa=>(EA P n ts).map (a :: ·)
def zL {H:Type} (P:Program) (n:Nat):List TypeId->List (DataW H)->Option (List (List D))
 | [],[]=>some []
 | t::ts,d::ds=>(gK P n t d).bind λl=>(zL P n ts ds).map (l :: ·)
 | _,_=>none
def acg {n:Nat}:∀{ts:List TypeId} {vs:List Value} {ds:List (DataW H)} {ps:List MemPlace} {l:List V} {tt:List (List TS)},DataW.TrodAll enc P W 0 (λ_=>true) true ts vs ds ps->zy P n ts ds=some l->EA P n ts=some tt->
  ∃rs,zL P n ts ds=some rs/\MJ tt rs/\l=E9 P ts rs
 | [],vs,ds,ps,l,tt,h,hl,ht=>by
  cases vs<;>cases ds<;>simp_all[DataW.TrodAll,zy,EA];subst hl;subst ht;exact⟨[],rfl,trivial,rfl⟩
 | t::ts,vs,ds,ps,l,tt,h,hl,ht=>by
  cases vs with
  | nil=>simp[DataW.TrodAll] at h
  | cons v vs=>
   cases ds with
   | nil=>simp[DataW.TrodAll] at h
   | cons d ds=>
    obtain⟨p,q,⟨fuel,h1⟩,h2,rfl⟩:=h;simp only[zy] at hl;obtain⟨r,k1,k2⟩:=bind_some hl;obtain⟨l2,k3,rfl⟩:=bK k2;simp only[EA] at ht;obtain⟨t1,j1,j2⟩:=bind_some ht;obtain⟨t2,j3,rfl⟩:=bK j2;have ho:=ap1 n fuel t _ _ _ _ h1 k1 j1;obtain⟨rs,g1,g2,rfl⟩:=acg h2 k3 j3;exact⟨r::rs,by simp[zL,k1,g1],⟨ho,g2⟩,rfl⟩
def apd {nm:FuncId->Option Nat} {G:Nat->Option Obj} {Cl:Nat->bX} (hO:∀N,E1 P nm G (Cl N)) (FI:∀B c,G B=some c->W.heap[B]? = some c/\∃cur e fz,c = .cells cur e fz) {cj:FuncId} {f0:Nat} {g:Func} {c:Code} (jJ:nm cj=some f0) (hf:P.funcs[cj]? = some g) (mo:(g.name == "runtime.NumGoroutine")=false) (hb:g.body=some c)
  {n base:Nat} {ts:List TypeId} {tt:List (List TS)} {args:Array Value} {ds:List (DataW H)} {ps:List MemPlace} (hA:DataW.TrodAll enc P W 0 (λ_=>true) true ts args.toList ds ps)
  (hs:∀t∈ts,lY P n t=true) (Ay:EA P n ts=some tt) (cH:∀(j:Nat) t v,ts[j]? = some t->args[j]? = some v->Value.okWide P W .any base t v)
  {b:Bool} (heq:∀rs,zL P n ts ds=some rs->MJ tt rs->∃N out,Cl N f0 (E9 P ts rs) []=some (.one (.d (.bool b)),out)) :
  Calls P cj args W λe W'=>e = .returned (.bool b)/\Left W W':=by
 obtain⟨l,h1,_⟩:=OM (nm:=nm) hA hs (λj t v hj hv=>cH j t v hj (by simpa using hv));obtain⟨rs,h2,h3,rfl⟩:=acg hA h1 Ay;obtain⟨N,out,h4⟩:=heq rs h2 h3;refine apc (hO N) FI jJ hf mo hb hA hs cH (λl' lQ=>?_);rw[h1] at lQ;cases lQ;exact⟨out,h4⟩
end
end
section
mutual
def A1:D->Prop
 | .sl _ _ rows=>rows.length * 8<=reachBytes/\HF rows
 | .str s=>s.length<=reachBytes
 | _=>True
def kY:List D->Prop
 | []=>True
 | x::t=>A1 x/\kY t
def HF:List (List D)->Prop
 | []=>True
 | r::t=>kY r/\HF t
end
def acf:∀{a b:List D},kY a->kY b->kY (a++b)
 | [],b,_,h=>h
 | x::t,b,h1,h2=>by
  simp only[kY] at h1;simp only[sr,kY];exact⟨h1.1,acf h1.2 h2⟩
def ML:∀{rows:List (List D)} {r:List D},HF rows->r∈rows->kY r
 | [],r,_,h=>by cases h
 | x::t,r,h1,h=>by
  simp only[HF] at h1;rcases ik.1 h with h | h
  ·subst h;exact h1.1
  ·exact ML h1.2 h
def xx (P:Program):Nat->TypeId->Bool
 | 0,_=>true
 | n+1,t=>match P.underlying t with
  | some (.slice e)=>decide (8<=P.bytesOf e)&&xx P n e
  | some (.struct fs)=>fs.toList.all λf=>xx P n f.type
  | _=>true
section
variable {H:Type} {P:Program}
def afM {e:TypeId}:∀{ds:List (DataW H)} {d:DataW H} {x:Nat},d∈ds->x∈d.weights P e->x∈DataW.weightsAll P e ds
 | d'::ds,d,x,h,hx=>by
  simp only[DataW.weightsAll,dk];rcases ik.1 h with h | h
  ·subst h;exact .inl hx
  ·exact .inr (afM h hx)
def afl {n:Nat} (ih:∀(t:TypeId) (d:DataW H) l,gK P n t d=some l->xx P n t=true->(∀x∈d.weights P t,x<=reachBytes)->kY l) :
  ∀(fl:List Field) (ds:List (DataW H)) {l:List D},qf P n fl ds=some l->(∀f∈fl,xx P n f.type=true)->(∀x∈DataW.weightsEach P (fl.map (·.type)) ds,x<=reachBytes)->kY l
 | [],[],l,h,_,_=>by simp[qf] at h;subst h;trivial
 | [],_::_,l,h,_,_=>by simp[qf] at h
 | _::_,[],l,h,_,_=>by simp[qf] at h
 | f::fl,d::ds,l,h,hb,hw=>by
  simp only[qf] at h;obtain⟨l1,k1,k2⟩:=bind_some h;obtain⟨l2,k3,rfl⟩:=bK k2;simp only[e9,DataW.weightsEach,dk] at hw;exact acf (ih _ _ _ k1 (hb f (jD ..)) λx hx=>hw x (.inl hx)) (afl ih fl ds k3 (λg hg=>hb g (jC _ hg)) λx hx=>hw x (.inr hx))
def afy {f:DataW H->Option (List D)}:∀(ds:List (DataW H)) {rows:List (List D)},ds.mapM f=some rows->(∀d∈ds,∀l,f d=some l->kY l)->HF rows/\rows.length=ds.length
 | [],rows,h,_=>by
  have:rows=[]:=by simpa using h.symm
  subst this;exact⟨trivial,rfl⟩
 | d::ds,rows,h,ih=>by
  rw[mM] at h;obtain⟨a,h1,h2⟩:=bind_some h;obtain⟨b,h3,h4⟩:=bind_some h2;cases h4;obtain⟨g1,g2⟩:=afy ds h3 λd hd=>ih d (jC _ hd)
  exact⟨⟨ih d (jD ..) _ h1,g1⟩,by simp[g2]⟩
def asN:∀(n:Nat) (t:TypeId) (d:DataW H) (l:List D),gK P n t d=some l->xx P n t=true->(∀x∈d.weights P t,x<=reachBytes)->kY l:=by
 intro n;induction n with
 | zero=>intro t d l h;simp[gK] at h
 | succ n ih=>
  intro t d l h hb hw;unfold gK at h;split at h
  ·cases h;exact⟨trivial,trivial⟩
  ·cases h;exact⟨trivial,trivial⟩
  ·cases h;exact⟨hw _ (by unfold DataW.weights;exact pd.2 rfl),trivial⟩
  ·cases h;exact⟨⟨by simp,trivial⟩,trivial⟩
  ·rename_i e elems sp hu;obtain⟨rows,h1,rfl⟩:=bK h;simp only[xx,hu,cI,gX] at hb;unfold DataW.weights at hw;simp only[hu] at hw;obtain⟨g1,g2⟩:=afy elems h1 λd hd l hl=>ih e d l hl hb.2 λx hx=>hw x (jC _ (EO _ (afM hd hx)))
   have h8:=hw _ (jD ..);refine⟨⟨?_,g1⟩,trivial⟩;rw[g2];refine iD (IN _ hb.1) (iD (p8 _ (Nat.le_add_right _ _)) h8)
  ·rename_i fs ds hu;simp only[xx,hu] at hb;unfold DataW.weights at hw;simp only[hu] at hw;refine afl (λt d l=>ih t d l) _ _ h (λf hf=>gY.1 hb f hf) ?_;simpa using hw
  ·cases h
def afS {n:Nat}:∀{ts:List TypeId} {ds:List (DataW H)} {rs:List (List D)},zL P n ts ds=some rs->(∀t∈ts,xx P n t=true)->(∀x∈DataW.weightsEach P ts ds,x<=reachBytes)->∀r∈rs,kY r
 | [],[],rs,h,_,_,r,hr=>by cases h;cases hr
 | t::ts,d::ds,rs,h,hb,hw,r,hr=>by
  simp only[zL] at h;obtain⟨a,h1,h2⟩:=bind_some h;obtain⟨b,h3,rfl⟩:=bK h2;simp only[DataW.weightsEach,dk] at hw;rcases ik.1 hr with hr | hr
  ·subst hr;exact asN _ _ _ _ h1 (hb t (jD ..)) λx hx=>hw x (.inl hx)
  ·exact afS h3 (λt ht=>hb t (jC _ ht)) (λx hx=>hw x (.inr hx)) r hr
 | [],_::_,rs,h,_,_,r,hr=>by cases h
 | _::_,[],rs,h,_,_,r,hr=>by cases h
end
end
end Go.ax
