/- A part of the proof. -/
import Derived.Test.YtfmpdgeiodnnfaaGreatDoorL9
set_option maxRecDepth 100000
set_option maxHeartbeats 2000000
set_option linter.all false
namespace Go.Proofs.YtfmpdgeiodnnfaaGreatDoor
section
open Go Go.ax QQ
def jj (role:BB) (ps:List PT) (x:Nat):Prop:=∃p,ps[x]? = some p∧(p.fr==role||p.to==role)=true
def aL (s:BB):List D:=[.str s]
theorem SV:∀a:PR,0+3≤(cZ a).length∧dS ec (List.take 3 (List.drop 0 (cZ a)))=some ((fun p=>(p.nm,(p.rt,p.rs.map aL),(p.pt,p.gR),())) a):=(fun a=>⟨by simp [cZ],rfl⟩)
theorem rq:∀a:BB,0+1≤(aL a).length∧dS [DS.str] (List.take 1 (List.drop 0 (aL a)))=some ((fun a=>(a,())) a):=(fun a=>⟨by simp [aL],rfl⟩)
theorem jj.lt {role:BB} {ps:List PT} {x:Nat} (h:jj role ps x):x < ps.length:=by
 obtain ⟨p,h1,_⟩:=h;exact (cB.1 h1).1
theorem qv:∀l:List BB,aW (l.map aL)=l.map aL
 | []=>rfl
 | a::t=>by simp only [fS,aW,qv t];rfl
theorem anW (l:List BB):lS (l.map aL)=true:=by
 cases l with
 | nil=>rfl
 | cons a t=>simp [lS,tj,xF,aL]
theorem DP (l:List BB) (b:Bool):fR 16 (l.map aL) b=true:=by
 unfold fR;rw [anW];rfl
section
variable {m:Nat} {Q:V→List (List C)→Prop}
theorem RT (q:Nat) (hq:100≤q) {ps:List PT} (role nm:BB) (rs:Bool×RR) (pb lb:Bool) (l:List Nat) (hl:∀x∈l,x < ps.length) (oz:l.length≤50) (b1:Bool) (r1:RR) {K:dh.T→OR}
  (h:∀b (l':List Nat),(∀x∈l',jj role ps x)→l'.length≤l.length→Wp (K ((b,l'.map aU),())) Q) :
  ∀(c i:Nat) (o:List Nat),l.length - i < c→i≤l.length→(∀x∈o,jj role ps x)→o.length≤i→
   Wp (Gf (T q) q c role lb (l.map aU) (nm,(.im b1,r1),(.im pb,ps.map cP),()) (o.map aU) (i:Int)) (J dh K Q)
 | 0,i,o,hc,_,_,_=>by omega
 | c+1,i,o,hc,hi,ho,Zb=>by
  refine aD alS (ai (fun g1=>eY ?_) (fun g1=>?_))
  ·have af:i < l.length:=bM g1;have hw:=wI i;have hg:l[i]? = some l[i]:=gE af;have hx:=hl _ (bL af);have Fe:ps[l[i]]? = some ps[l[i]]:=gE hx;refine aM gS rfl hg ?_;refine aM Dr rfl Fe ?_;refine Uj (m:=q) (by omega) (ai (fun g2=>?_) (fun g2=>?_))
   ·refine aM gS rfl hg (aE (hC (by simp;omega) (by omega)) ?_);rw [hw,dr];have:=RT q hq role nm rs pb lb l hl oz b1 r1 h c (i+1) (o++[l[i]]) (by omega) (by omega)
     (by intro x hx;rw [dC] at hx;rcases hx with hx | hx;exact ho x hx;simp at hx;subst hx;exact ⟨_,Fe,g2⟩) (by simp;omega)
    rw [eg] at this;exact this
   ·rw [hw];exact RT q hq role nm rs pb lb l hl oz b1 r1 h c (i+1) o (by omega) (by omega) ho (by omega)
  ·refine aE (by simp) ?_;rw [dr,GQ];exact aA (aC rfl (h false o ho (by omega)))
theorem abd (q:Nat) (hq:100≤q) {ps:List PT} (role nm:BB) (pb lb:Bool) (l:List Nat) (hl:∀x∈l,x < ps.length) (oz:l.length≤50) (b1:Bool) (r1:RR) {K:dh.T→OR}
  (h:∀b (l':List Nat),(∀x∈l',jj role ps x)→l'.length≤l.length→Wp (K ((b,l'.map aU),())) Q) :
  ∀(c i:Nat),c≤q→l.length - i < c→i≤l.length→
   Wp (KJ (T q) q c role lb (l.map aU) (nm,(.im b1,r1),(.im pb,ps.map cP),()) true [] (i:Int)) (J dh K Q)
 | 0,i,_,hc,_=>by omega
 | c+1,i,E5,hc,hi=>by
  refine aD alR (ai (fun g1=>eY ?_) (fun g1=>?_))
  ·have af:i < l.length:=bM g1;have hw:=wI i;have hg:l[i]? = some l[i]:=gE af;have hx:=hl _ (bL af);have Fe:ps[l[i]]? = some ps[l[i]]:=gE hx;refine aM gS rfl hg ?_;refine aM Dr rfl Fe ?_;refine Uj (m:=q) (by omega) (ai (fun g2=>?_) (fun g2=>?_))
   ·refine aM gS rfl hg (aE rfl ?_);rw [hw];exact RT q hq role nm (b1,r1) pb lb l hl oz b1 r1 h c (i+1) [l[i]] (by omega) (by omega) (by intro x hx;simp at hx;subst hx;exact ⟨_,Fe,g2⟩) (by simp)
   ·rw [hw];exact abd q hq role nm pb lb l hl oz b1 r1 h c (i+1) (by omega) (by omega) (by omega)
  ·exact aA (aC rfl (h true [] (by intro x hx;cases hx) (by simp)))
theorem aeg (hm:110≤m) {ps:List PT} {nm role:BB} {b1 b2 b3:Bool} {rs:RR} {l:List Nat} (hl:∀x∈l,x < ps.length) (oz:l.length≤50) {K:dh.T→OR}
  (h:∀b (l':List Nat),(∀x∈l',jj role ps x)→l'.length≤l.length→Wp (K ((b,l'.map aU),())) Q) :
  Wp (N6 (T m) nm b1 rs b2 (ps.map cP) role b3 (l.map aU) K) Q:=by
 obtain ⟨m,rfl⟩:=cG hm;exact bH ag0 (abd m (by omega) role nm b2 b3 l hl oz b1 rs h m 0 (by omega) (by omega) (by omega))
theorem aqB (hm:120≤m) {ps:List PT} (hP:xW ps) {nm role:BB} {b1 b2:Bool} {rs:RR} {x:Nat} {K:bj.T→OR} (h:∀b,Wp (K (b,())) Q) :
  Wp (Wg (T m) nm b1 rs b2 (ps.map cP) role (x:Int) K) Q:=by
 obtain ⟨m,rfl⟩:=cG hm;have cY:=hP.1;refine bH agZ ?_;refine aep (m:=m) (by omega) hP (fr:=[x]) (by simp) fun b l hl gi=>?_
 refine aeg (m:=m) (by omega) hl (by omega) fun b' l' mc arh=>aA ?_
 exact aC rfl (h _)
theorem acY (q:Nat) (a b:List Nat) (hl:a.length=b.length) (oz:a.length≤50) (x y:Bool) {K:bj.T→OR} (h:∀b,Wp (K (b,())) Q):∀(c i:Nat),a.length - i < c→i≤a.length→
  Wp (KK (T q) q c x (a.map aU) y (b.map aU) (i:Int)) (J bj K Q)
 | 0,i,hc,_=>by omega
 | c+1,i,hc,hi=>by
  refine aD alT (ai (fun g1=>?_) (fun g1=>aA (aC rfl (h true))));have af:i < a.length:=bM g1;refine aM gS rfl (gE af) ?_;refine aM gS rfl (gE (show i < b.length by omega)) (ai (fun g2=>aA (aC rfl (h false))) (fun g2=>?_));rw [wI i];exact acY q a b hl oz x y h c (i+1) (by omega) (by omega)
theorem aqJ (hm:110≤m) {a b:List Nat} (oz:a.length≤50) {x y:Bool} {K:bj.T→OR} (h:∀b,Wp (K (b,())) Q):Wp (Wh (T m) x (a.map aU) y (b.map aU) K) Q:=by
 obtain ⟨m,rfl⟩:=cG hm;refine bH ag1 (ai (fun g1=>aA (aC rfl (h false))) (fun g1=>?_));have hl:a.length=b.length:=by
  have g2:(ae (a.map aU).length != ae (b.map aU).length)=false:=g1;rw [bJ,bJ,cf,cf] at g2;have:=U4.1 g2;omega
 exact acY m a b hl oz x y h m 0 (by omega) (by omega)
theorem X5 (q:Nat) (b:Bool) (l:List AM) (oz:l.length≤50) (s:BB) {K:iL.T→OR} (h1:Wp (K (-1,())) Q) (h2:∀i:Nat,i < l.length→Wp (K ((i:Int),())) Q):∀(c i:Nat),l.length - i < c→i≤l.length→
  Wp (KC (T q) q c b (l.map cM) s (i:Int)) (J iL K Q)
 | 0,i,hc,_=>by omega
 | c+1,i,hc,hi=>by
  refine aD alF (ai (fun g1=>?_) (fun g1=>aA (aC rfl h1)));have af:i < l.length:=bM g1;refine aM Ds rfl (gE af) (ai (fun g2=>aA (aC rfl (h2 i af))) (fun g2=>?_));rw [wI i];exact X5 q b l oz s h1 h2 c (i+1) (by omega) (by omega)
theorem aec (hm:110≤m) {b:Bool} {l:List AM} (oz:l.length≤50) {s:BB} {K:iL.T→OR} (h1:Wp (K (-1,())) Q) (h2:∀i:Nat,i < l.length→Wp (K ((i:Int),())) Q):Wp (N7 (T m) b (l.map cM) s K) Q:=by
 obtain ⟨m,rfl⟩:=cG hm;exact bH agV (X5 m b l oz s h1 h2 m 0 (by omega) (by omega))
def Ec (n:Nat) (K:dh.T→OR) (Q:V→List (List C)→Prop):Prop:=∀b (l':List BB),l'≠[]→l'.length≤n→Wp (K ((b,l'.map aL),())) Q
theorem SG (q:Nat) (b:Bool) (l:List BB) (h5:l.length≤500) (s:BB) {K:dh.T→OR} (h:Ec (l.length+1) K Q) {i:Nat} (hi:i≤l.length) :
  Wp (Kp (T (q+1)) (q+1) (q+1) b (l.map aL) s (i:Int)) (J dh K Q):=by
 have ht:List.take (i - 0) (List.drop 0 (l.map aL))=(l.take i).map aL:=by simp
 have hd:List.take ((l.map aL).length - i) (List.drop i (l.map aL))=(l.drop i).map aL:=by
  rw [List.map_drop,yF (by simp)]
 refine aD alm (jd rfl (aE (bf (by simpa using hi)) (aE ?_ (ai (fun g=>?_) (fun g=>?_)))))
 ·rw [ht,DP];simp;omega
 ·refine aD alj (aE rfl (jd rfl (aE (by simp;omega) (aE ?_ (aA ?_)))))
  ·rw [hd,DP];simp;omega
  ·rw [hd];have e:([[D.str []]].set 0 [D.str s]++(l.drop i).map aL)=(s::l.drop i).map aL:=rfl;have e2:aW (whole ([[D.str []]].set 0 [D.str s])++(l.drop i).map aL)=(s::l.drop i).map aL:=by rw [dr,e,qv]
   rw [e2];exact aC rfl (h false (s::l.drop i) (by simp) (by simp))
 ·refine aD alk (aE (hC (by simp;omega) (by omega)) (jd rfl (aE (by simp;omega) (aE ?_ (aA ?_)))))
  ·rw [hd,DP,dr];simp;omega
  ·rw [hd,ht];have e2:aW ((l.take i).map aL++whole ([[D.str []]].set 0 [D.str s])++(l.drop i).map aL)=(l.take i++[s]++l.drop i).map aL:=by
    rw [dr,show ([[D.str []]].set 0 [D.str s])=[s].map aL from rfl,←eg,←eg,qv]
   rw [e2];exact aC rfl (h false _ (by simp) (by simp;omega))
theorem ach (q:Nat) (b:Bool) (l:List BB) (h5:l.length≤500) (s:BB) {K:dh.T→OR} (h:Ec (l.length+1) K Q):∀(c i:Nat),l.length - i < c→i≤l.length→
  Wp (Kq (T (q+1)) (q+1) c b (l.map aL) s (i:Int)) (J dh K Q)
 | 0,i,hc,_=>by omega
 | c+1,i,hc,hi=>by
  refine aD aln (ai (fun g1=>?_) (fun g1=>?_))
  ·have af:i < l.length:=bM g1;refine aM rq rfl (gE af) (ai (fun g2=>?_) (fun g2=>?_))
   ·rw [wI i];exact ach q b l h5 s h c (i+1) (by omega) (by omega)
   ·refine aD aag (ai (fun g3=>?_) (fun g3=>SG q b l h5 s h (by omega)));refine aM rq rfl (gE af) (ai (fun g4=>?_) (fun g4=>SG q b l h5 s h (by omega)));exact aA (aC rfl (h b l (by intro h0;rw [h0] at af;simp at af) (by omega)))
  ·refine aD aag (ai (fun g3=>?_) (fun g3=>SG q b l h5 s h (by omega)));rw [g1] at g3;cases g3
theorem ael (hm:510≤m) {b:Bool} {l:List BB} (h5:l.length≤500) {s:BB} {K:dh.T→OR} (h:Ec (l.length+1) K Q):Wp (c236 (T m) b (l.map aL) s K) Q:=by
 obtain ⟨m,rfl⟩:=bm 2 m;exact bH agP (ach m b l h5 s h (m+1) 0 (by omega) (by omega))
theorem Vg (q:Nat) (hq:510≤q) (a0:Bool) (l:List BB) (h4:l.length≤400) {K:dh.T→OR} (h:Ec (l.length+1) K Q):∀(c i:Nat) (b:Bool) (o:List BB),l.length - i < c→i≤l.length→o≠[]→o.length≤i+1→
  Wp (Ko (T q) q c a0 (l.map aL) b (o.map aL) (i:Int)) (J dh K Q)
 | 0,i,b,o,hc,_,_,_=>by omega
 | c+1,i,b,o,hc,hi,ho,Zb=>by
  refine aD ali (ai (fun g1=>?_) (fun g1=>aA (aC rfl (h b o ho (by omega)))));have af:i < l.length:=bM g1;refine aM rq rfl (gE af) ?_;refine ael (m:=q) (by omega) (by omega) fun b' o' qj mc=>?_
  rw [wI i];exact Vg q hq a0 l h4 h c (i+1) b' o' (by omega) (by omega) qj (by omega)
theorem aqs (hm:520≤m) {b:Bool} {l:List BB} (h4:l.length≤400) {s:BB} {K:dh.T→OR} (h:Ec (l.length+1) K Q):Wp (c218 (T m) b (l.map aL) s K) Q:=by
 obtain ⟨m,rfl⟩:=cG hm;refine bH agO ?_;obtain ⟨r,hr⟩:=bm 1 m;have e1:Kn (T m) m m=Kn (T m) m (r+1):=by rw [←hr]
 rw [e1];refine aD alh (ai (fun g1=>?_) (fun g1=>aE rfl (aA (aC rfl (h false [s] (by simp) (by simp))))));have af:0 < l.length:=bM g1;refine aM rq (i:=0) rfl (gE af) (aE rfl ?_);refine ael (m:=m) (by omega) (l:=[s]) (by simp) fun b' o' qj mc=>?_
 exact Vg m (by omega) b l h4 h r 1 b' o' (by omega) (by omega) qj (by simpa using mc)
end
end
section
open Go Go.ax QQ
def kK (x:Bool×List Nat):List D:=[.sl (.im x.1) 1 (x.2.map aU)]
structure PK where
 nm:BB
 rb:Bool
 rs:RR
 pb:Bool
 ps:List PT
 role:BB
def WB (k:PK) (t:Tag) (bg:List (Bool×List Nat)):au bu:=(k.nm,(.im k.rb,k.rs),(.im k.pb,k.ps.map cP),k.role,(t,bg.map kK),())
structure PH (k:PK):Prop where
 gR:xW k.ps
 aeZ:∀x,jj k.role k.ps x→∃p,k.ps[x]? = some p∧p.ms≠[]
structure SH (k:PK) (t:Tag) (bg:List (Bool×List Nat)):Prop where
 no:t = .own∨(t = .im true∧bg=[])
 ne:t = .own→bg≠[]
 ln:bg.length≤40
 ok:∀x∈bg,(∀y∈x.2,jj k.role k.ps y)∧x.2.length≤24
section
variable {m:Nat} {Q:V→List (List C)→Prop} {k:PK} {t:Tag} {bg:List (Bool×List Nat)}
theorem P7 (q:Nat) (hq:100≤q) (hk:PH k) (b:Bool) (l:List Nat) (hl:∀y∈l,jj k.role k.ps y) (cY:l.length≤24) {x2:au bu} {K:Dz.T→OR}
  (h:∀kd pr err,(err=0→l≠[]→kd=1∨kd=2)→Wp (K ((kd,pr,err,()),WB k t bg,())) Q):∀(c i:Nat) (kd:Int) (pr:BB),l.length - i < c→i≤l.length→(kd=1∨kd=2)→
   Wp (CN (T q) q x2 c b (l.map aU) (WB k t bg) (i:Int) kd pr) (J Dz K Q)
 | 0,i,kd,pr,hc,_,_=>by omega
 | c+1,i,kd,pr,hc,hi,oE=>by
  refine aD alH (ai (fun g1=>eY ?_) (fun g1=>aA (aC rfl (h kd pr 0 (fun _ _=>oE)))));have af:i < l.length:=bM g1;have hw:=wI i;obtain ⟨p,hp,_⟩:=hl _ (bL af);obtain ⟨r,hr⟩:=bm 1 q;have e1:CP (T q) q x2 c q=CP (T q) q x2 c (r+1):=by rw [←hr]
  have rest:∀(a6:au lh) (q9:Int) (ya:BB),(q9=1∨q9=2)→Wp (CP (T q) q x2 c q b (l.map aU) (WB k t bg) (i:Int) kd pr a6 q9 ya) (J Dz K Q):=by
   intro a6 q9 ya Jt;rw [e1];refine aD alJ (ai (fun g2=>ai (fun g3=>?_) (fun g3=>ai (fun g4=>?_) (fun g4=>?_))) (fun g2=>?_))
   ·exact aA (aC rfl (h 0 [] 802 (fun h0=>by cases h0)))
   ·exact aA (aC rfl (h 0 [] 802 (fun h0=>by cases h0)))
   ·rw [hw];exact P7 q hq hk b l hl cY h c (i+1) q9 ya (by omega) (by omega) Jt
   ·rw [hw];exact P7 q hq hk b l hl cY h c (i+1) q9 ya (by omega) (by omega) Jt
  refine aM gS rfl (gE af) ?_;refine aM Dr rfl hp (ai (fun g2=>?_) (fun g2=>?_))
  ·exact rest _ 2 _ (.inr rfl)
  ·exact rest _ 1 _ (.inl rfl)
theorem aqx (hm:110≤m) (hk:PH k) {b:Bool} {l:List Nat} (hl:∀y∈l,jj k.role k.ps y) (cY:l.length≤24) {K:Dz.T→OR}
  (h:∀kd pr err,(err=0→l≠[]→kd=1∨kd=2)→Wp (K ((kd,pr,err,()),WB k t bg,())) Q):Wp (c193 (T m) b (l.map aU) (WB k t bg) K) Q:=by
 obtain ⟨m,rfl⟩:=cG hm;refine bH agW ?_;obtain ⟨r,hr⟩:=bm 1 m;have e1:∀x,KD (T m) m x m=KD (T m) m x (r+1):=by intro x;rw [←hr]
 rw [e1];refine aD alG (ai (fun g1=>eY ?_) (fun g1=>aA (aC rfl (h 0 [] 0 (fun _ h0=>?_)))))
 ·have af:0 < l.length:=bM g1;obtain ⟨p,hp,_⟩:=hl _ (bL af);have e2:∀x,CO (T m) m x r m=CO (T m) m x r (r+1):=by intro x;rw [←hr]
  have rest:∀(x2:au bu) (a6:au lh) (q9:Int) (ya:BB),(q9=1∨q9=2)→Wp (CO (T m) m x2 r m b (l.map aU) (WB k t bg) 0 [] 0 a6 q9 ya) (J Dz K Q):=by
   intro x2 a6 q9 ya Jt;rw [e2];refine aD alI (eH rfl ?_);exact P7 m (by omega) hk b l hl cY h r 1 q9 ya (by omega) (by omega) Jt
  refine aM gS (i:=0) rfl (gE af) ?_;refine aM Dr rfl hp (ai (fun g2=>?_) (fun g2=>?_))
  ·exact rest _ _ 2 _ (.inr rfl)
  ·exact rest _ _ 1 _ (.inl rfl)
 ·have g2:¬ (0:Int) < ae (l.map aU).length:=kF g1;rw [bJ,cf] at g2;cases l with
  | nil=>exact absurd rfl h0
  | cons=>simp at g2
def Ns (k:PK) (t:Tag) (bg:List (Bool×List Nat)) (l:List Nat) (K:Az.T→OR) (Q:V→List (List C)→Prop):Prop:=
 ∀b (ls:List BB) al,(l≠[]→ls≠[])→ls.length≤300→Wp (K (((b,ls.map aL),al,()),WB k t bg,())) Q
theorem aay (q:Nat) (hk:PH k) (b:Bool) (l:List Nat) (hl:∀y∈l,jj k.role k.ps y) (cY:l.length≤24) {x2:au bu} (lb:Bool) (ls:List BB) (h0:l≠[]→ls≠[]) (h3:ls.length≤300) {K:Az.T→OR} (h:Ns k t bg l K Q):∀(c i:Nat),l.length - i < c→i≤l.length→
  Wp (KE (T q) q x2 c b (l.map aU) (WB k t bg) lb (ls.map aL) (i:Int)) (J Az K Q)
 | 0,i,hc,_=>by omega
 | c+1,i,hc,hi=>by
  refine aD alK (ai (fun g1=>eY ?_) (fun g1=>aA (aC rfl (h lb ls true h0 h3))));have af:i < l.length:=bM g1;obtain ⟨p,hp,_⟩:=hl _ (bL af);refine aM gS rfl (gE af) ?_;refine aM Ml rfl hp (ai (fun g2=>aA (aC rfl (h lb ls false h0 h3))) (fun g2=>?_));rw [wI i];exact aay q hk b l hl cY lb ls h0 h3 h c (i+1) (by omega) (by omega)
theorem aaA (q:Nat) (hq:530≤q) (b:Bool) (l:List Nat) {x2:au bu} (c1:Nat) (i:Nat) (cY:i≤24) (pb:Bool) (ms:List AM) (dj:ms.length≤10)
  (h:∀lb (ls:List BB),ls.length≤(i+1) * 10→(ms≠[]→ls≠[])→Wp (Ge (T q) q x2 c1 b (l.map aU) (WB k t bg) lb (ls.map aL) ((i+1:Nat):Int)) Q):∀(c j:Nat) (lb:Bool) (ls:List BB),ms.length - j < c→j≤ms.length→ls.length≤i * 10+j→(1≤j→ls≠[])→
  Wp (KF (T q) q x2 c1 c b (l.map aU) (WB k t bg) lb (ls.map aL) (i:Int) pb (ms.map cM) (j:Int)) Q
 | 0,j,lb,ls,hc,_,_,_=>by omega
 | c+1,j,lb,ls,hc,hj,lM,aB=>by
  refine aD alM (ai (fun g1=>?_) (fun g1=>?_))
  ·have af:j < ms.length:=bM g1;refine aM Ds rfl (gE af) ?_;refine aqs (m:=q) (by omega) (by omega) fun b' l' Qu mc=>?_
   rw [wI j];exact aaA q hq b l c1 i cY pb ms dj h c (j+1) b' l' (by omega) (by omega) (by omega) (fun _=>Qu)
  ·rw [wI i];have g2:¬ (j:Int) < ae (ms.map cM).length:=kF g1;rw [bJ,cf] at g2;refine h lb ls (by omega) (fun h0=>aB ?_);cases ms with
   | nil=>exact absurd rfl h0
   | cons=>simp at g2;omega
theorem aaz (q:Nat) (hq:530≤q) (hk:PH k) (b:Bool) (l:List Nat) (hl:∀y∈l,jj k.role k.ps y) (cY:l.length≤24) {x2:au bu} {K:Az.T→OR} (h:Ns k t bg l K Q):∀(c i:Nat) (lb:Bool) (ls:List BB),l.length - i < c→i≤l.length→ls.length≤i * 10→(1≤i→ls≠[])→
  Wp (Ge (T q) q x2 c b (l.map aU) (WB k t bg) lb (ls.map aL) (i:Int)) (J Az K Q)
 | 0,i,lb,ls,hc,_,_,_=>by omega
 | c+1,i,lb,ls,hc,hi,lM,aB=>by
  refine aD alL (ai (fun g1=>eY ?_) (fun g1=>?_))
  ·have af:i < l.length:=bM g1;obtain ⟨p,hp,ajG⟩:=hk.aeZ _ (hl _ (bL af));have dj:=(hk.gR.2 p (fm hp)).1;refine aM gS rfl (gE af) ?_;refine aM Ml rfl hp ?_;exact aaA q hq b l c i (by omega) p.t p.ms dj (fun lb' RE g2 g3=>aaz q hq hk b l hl cY h c (i+1) lb' RE (by omega) (by omega) g2 (fun _=>g3 ajG)) q 0 lb ls (by omega) (by omega) (by omega) (fun h0=>by omega)
  ·have g2:¬ (i:Int) < ae (l.map aU).length:=kF g1;rw [bJ,cf] at g2;exact aay q hk b l hl cY lb ls (fun h0=>aB (by cases l with | nil=>exact absurd rfl h0 | cons=>simp at g2;omega)) (by omega) h q 0 (by omega) (by omega)
theorem aqz (hm:540≤m) (hk:PH k) {b:Bool} {l:List Nat} (hl:∀y∈l,jj k.role k.ps y) (cY:l.length≤24) {K:Az.T→OR} (h:Ns k t bg l K Q):Wp (c194 (T m) b (l.map aU) (WB k t bg) K) Q:=by
 obtain ⟨m,rfl⟩:=cG hm;exact bH agX (aaz m (by omega) hk b l hl cY h m 0 true [] (by omega) (by omega) (by simp) (fun h0=>by omega))
def Np (k:PK) (t:Tag) (bg:List (Bool×List Nat)) (K:yo.T→OR) (Q:V→List (List C)→Prop):Prop:=
 ∀kd nm b (to:List Nat) is,to.length≤24→Wp (K (((kd,nm,()),(b,to.map aU),is,()),WB k t bg,())) Q
theorem Ok (q:Nat) (hq:530≤q) (hk:PH k) (b:Bool) (l:List Nat) (hl:∀y∈l,jj k.role k.ps y) (cY:l.length≤24) (s:BB) {x3:au bu} (a4:au kb) {K:yo.T→OR} (h:Np k t bg K Q):∀(c i:Nat) (a5:au kb) (to:List Nat),l.length - i < c→i≤l.length→to.length≤i→
  Wp (Gc (T q) q x3 c b (l.map aU) s (WB k t bg) a4 a5 (to.map aU) (i:Int)) (J yo K Q)
 | 0,i,a5,to,hc,_,_=>by omega
 | c+1,i,a5,to,hc,hi,QN=>by
  refine aD alC (ai (fun g1=>eY ?_) (fun g1=>?_))
  ·have af:i < l.length:=bM g1;have hw:=wI i;obtain ⟨p,hp,_⟩:=hl _ (bL af);have dj:=(hk.gR.2 p (fm hp)).1;obtain ⟨r,hr⟩:=bm 1 q;have e1:CM (T q) q x3 c q=CM (T q) q x3 c (r+1):=by rw [←hr]
   have rest:∀j:Nat,j < p.ms.length→Wp (CM (T q) q x3 c q b (l.map aU) s (WB k t bg) a4 a5 (to.map aU) (i:Int) p.t (p.ms.map cM) (j:Int)) (J yo K Q):=by
    intro j hj;rw [e1];refine aD alE ?_;refine aM G1 rfl (gE hj) ?_;refine aM yg rfl (gE hj) (aE (hC (by simp;omega) (by omega)) ?_);rw [hw,dr];have:=Ok (x3:=x3) q hq hk b l hl cY s a4 h c (i+1) (p.ms[j].kd,p.ms[j].nm,()) (to++[p.ms[j].nx]) (by omega) (by omega) (by simp;omega);rw [eg] at this;exact this
   refine aM gS rfl (gE af) ?_;refine aM Ml rfl hp ?_;refine aec (m:=q) (by omega) (by omega) ?_ (fun j hj=>?_)
   ·refine gM rfl ?_;rw [hw];exact Ok q hq hk b l hl cY s a4 h c (i+1) a5 to (by omega) (by omega) (by omega)
   ·refine eH (cg (show ¬ ((j:Nat):Int) < 0 by omega)) (ai (fun g2=>?_) (fun g2=>rest j hj));refine aM G1 rfl (gE hj) (ai (fun g3=>?_) (fun g3=>rest j hj));exact aA (aC rfl (h a5.1 a5.2.1 true [] false (by simp)))
  ·refine aE (by simp) ?_;rw [dr,GQ];exact aA (aC rfl (h a5.1 a5.2.1 false to true (by omega)))
theorem WI (q:Nat) (hq:530≤q) (hk:PH k) (b:Bool) (l:List Nat) (hl:∀y∈l,jj k.role k.ps y) (cY:l.length≤24) (s:BB) {x3:au bu} (a4:au kb) {K:yo.T→OR} (h:Np k t bg K Q):∀(c i:Nat) (a5:au kb),c≤q→l.length - i < c→i≤l.length→
  Wp (KB (T q) q x3 c b (l.map aU) s (WB k t bg) a4 a5 true [] (i:Int)) (J yo K Q)
 | 0,i,a5,_,hc,_=>by omega
 | c+1,i,a5,E5,hc,hi=>by
  refine aD alB (ai (fun g1=>eY ?_) (fun g1=>aA (aC rfl (h a5.1 a5.2.1 true [] true (by simp)))));have af:i < l.length:=bM g1;have hw:=wI i;obtain ⟨p,hp,_⟩:=hl _ (bL af);have dj:=(hk.gR.2 p (fm hp)).1;obtain ⟨r,hr⟩:=bm 1 q;have e1:Gd (T q) q x3 c q=Gd (T q) q x3 c (r+1):=by rw [←hr]
  refine aM gS rfl (gE af) ?_;refine aM Ml rfl hp ?_;refine aec (m:=q) (by omega) (by omega) ?_ (fun j hj=>?_)
  ·refine gM rfl ?_;rw [hw];exact WI q hq hk b l hl cY s a4 h c (i+1) a5 (by omega) (by omega) (by omega)
  ·refine eH (cg (show ¬ ((j:Nat):Int) < 0 by omega)) (eH rfl ?_);rw [e1];refine aD alD ?_;refine aM G1 rfl (gE hj) ?_;refine aM yg rfl (gE hj) (aE rfl ?_);rw [hw];exact Ok q hq hk b l hl cY s a4 h c (i+1) (p.ms[j].kd,p.ms[j].nm,()) [p.ms[j].nx] (by omega) (by omega) (by simp)
theorem Ub (hm:540≤m) (hk:PH k) {b:Bool} {l:List Nat} (hl:∀y∈l,jj k.role k.ps y) (cY:l.length≤24) {s:BB} {K:yo.T→OR} (h:Np k t bg K Q):Wp (Iq (T m) b (l.map aU) s (WB k t bg) K) Q:=by
 obtain ⟨m,rfl⟩:=cG hm;exact bH agU (WI m (by omega) hk b l hl cY s _ h m 0 _ (by omega) (by omega) (by omega))
end
end
section
open Go Go.ax QQ
section
variable {m:Nat} {Q:V→List (List C)→Prop} {k:PK} {t:Tag} {bg:List (Bool×List Nat)}
def D9 (k:PK) (t:Tag) (bg:List (Bool×List Nat)) (K:oS.T→OR) (Q:V→List (List C)→Prop):Prop:=
 (∀err,err≠0→Wp (K ((0,err,()),WB k t bg,())) Q)∧∀t' jA (i:Nat),SH k t' jA→(∃x,jA=bg++x)→i < jA.length→Wp (K (((i:Int),0,()),WB k t' jA,())) Q
theorem SH.app (h:SH k t bg) {b:Bool} {l:List Nat} (hl:∀y∈l,jj k.role k.ps y) (cY:l.length≤24) (hn:bg.length≠40):SH k .own (bg++[(b,l)]):=
 ⟨.inl rfl, fun _ => by simp, by have := h.ln; simp; omega, by
   intro x hx
   rw [dC] at hx
   rcases hx with hx | hx
   · exact h.ok x hx
   · simp at hx; subst hx; exact ⟨hl, cY⟩⟩
theorem anI (q r:Nat) (hS:SH k .own bg) (aB:bg≠[]) {x2:au bu} {K:oS.T→OR} (h:∀i:Nat,i < bg.length→Wp (K (((i:Int),0,()),WB k .own bg,())) Q) :
  Wp (CQ (T q) q x2 (r+1) (WB k .own bg)) (J oS K Q):=by
 refine aD alN (je (aA ?_));have hp:0 < bg.length:=by cases bg with | nil=>exact absurd rfl aB | cons=>simp
 have Jb:=hS.ln;have hw:ak (ae (bg.map kK).length - 1)=((bg.length - 1:Nat):Int):=fY (by rw [bJ];simp;omega) (by omega);refine aC (x:=((((bg.length - 1:Nat):Int),0,()),WB k .own bg,())) ?_ (h (bg.length - 1) (by omega));show ik oS (.aq [.one (iC (ak (ae (bg.map kK).length - 1))),_],_)=_;rw [hw];rfl
theorem aaU (q:Nat) (hq:130≤q) (hS:SH k t bg) (b:Bool) (l:List Nat) (hl:∀y∈l,jj k.role k.ps y) (cY:l.length≤24) {x2:au bu} {K:oS.T→OR} (h:D9 k t bg K Q) (hn:bg.length≠40) :
  Wp (CQ (T q) q x2 q (WB k .own (bg++[(b,l)]))) (J oS K Q):=by
 obtain ⟨r,hr⟩:=bm 1 q;have e0:CQ (T q) q x2 q=CQ (T q) q x2 (r+1):=by rw [←hr]
 rw [e0];exact anI q r (hS.app hl cY hn) (by simp) (fun i hi=>h.2 _ _ i (hS.app hl cY hn) ⟨_,rfl⟩ hi)
theorem aaS (q:Nat) (hq:130≤q) (hS:SH k .own bg) (b:Bool) (l:List Nat) (hl:∀y∈l,jj k.role k.ps y) (cY:l.length≤24) {x2:au bu} {K:oS.T→OR} (h:D9 k .own bg K Q):∀(c i:Nat),bg.length - i < c→i≤bg.length→
  Wp (z8 (T q) q x2 c (WB k .own bg) b (l.map aU) (i:Int)) (J oS K Q)
 | 0,i,hc,_=>by omega
 | c+1,i,hc,hi=>by
  have Jb:=hS.ln;have self:∃x,bg=bg++x:=⟨[],by simp⟩
  have tY:∀a:Bool×List Nat,0+1≤(kK a).length∧dS [.im 1] (List.take 1 (List.drop 0 (kK a)))=some ((a.1,a.2.map aU),()):=fun a=>⟨by simp [kK],rfl⟩
  refine aD aai (je (ai (fun g1=>?_) (fun g1=>ai (fun g2=>aA (aC rfl (h.1 805 (by decide)))) (fun g2=>?_))))
  ·have af:i < bg.length:=bM g1;refine nZ (enc:=kK) (f:=fun a=>((a.1,a.2.map aU),())) tY rfl (gE af) ?_;refine aqJ (m:=q) (by omega) (by have:=(hS.ok _ (bL af)).2;omega) fun bb=>ai (fun g3=>aA (aC rfl (h.2 _ _ i hS self af))) (fun g3=>?_)
   rw [wI i];exact aaS q hq hS b l hl cY h c (i+1) (by omega) (by omega)
  ·have hn:bg.length≠40:=by
    intro h4;have:(ae (bg.map kK).length==40)=true:=by rw [bJ,cf,h4];rfl
    have g3:(ae (bg.map kK).length==40)=false:=g2;rw [this] at g3;cases g3
   refine aE (hC (by simp [WB];omega) (by omega)) ?_;have:=aaU (x2:=x2) q hq hS b l hl cY h hn;have e:WB k .own (bg++[(b,l)])=(k.nm,(.im k.rb,k.rs),(.im k.pb,k.ps.map cP),k.role,(.own,bg.map kK++[[.sl (.im b) 1 (l.map aU)]]),()):=by simp [WB,kK]
   rw [e] at this;exact this
theorem anJ (q:Nat) (hq:130≤q) (hS:SH k t bg) (b:Bool) (l:List Nat) (hl:∀y∈l,jj k.role k.ps y) (cY:l.length≤24) {x2:au bu} {K:oS.T→OR} (h:D9 k t bg K Q) :
  Wp (z8 (T q) q x2 q (WB k t bg) b (l.map aU) 0) (J oS K Q):=by
 rcases hS.no with ht | ⟨ht,mh⟩
 ·subst ht;have Jb:=hS.ln;exact aaS q hq hS b l hl cY h q 0 (by omega) (by omega)
 ·subst ht;have:=aaU (x2:=x2) q hq hS b l hl cY h (by rw [mh];simp);subst mh;obtain ⟨r,hr⟩:=bm 1 q;have e0:z8 (T q) q x2 q=z8 (T q) q x2 (r+1):=by rw [←hr]
  rw [e0];exact aD aai (eY (eH rfl (eH rfl (aE rfl this))))
theorem aaT (q:Nat) (hq:130≤q) (hk:PH k) (hS:SH k t bg) (ab:Bool) (all:List Nat) (ha:∀x∈all,x < k.ps.length) (ai6:all.length≤24) (b:Bool) (l:List Nat) (hl:∀y∈l,jj k.role k.ps y) (cY:l.length≤24) {x2:au bu} {K:oS.T→OR} (h:D9 k t bg K Q):∀(c i:Nat),all.length - i < c→i≤all.length→
  Wp (KG (T q) q x2 c (WB k t bg) ab (all.map aU) b (l.map aU) (i:Int)) (J oS K Q)
 | 0,i,hc,_=>by omega
 | c+1,i,hc,hi=>by
  obtain ⟨r,hr⟩:=bm 1 q;have e3:KI (T q) q x2 c q=KI (T q) q x2 c (r+1):=by rw [←hr]
  have e4:CS (T q) q x2 q=CS (T q) q x2 (r+1):=by rw [←hr]
  have Jb:=hS.ln;have fin:Wp (CS (T q) q x2 q (WB k t bg) b (l.map aU)) (J oS K Q):=by
   rw [e4];exact aD alQ (anJ q hq hS b l hl cY h)
  refine aD alO (ai (fun g1=>ai (fun g2=>?_) (fun g2=>fin)) (fun g1=>fin));have af:i < all.length:=bM g1;rw [e3];refine aD alP (eY (eY ?_));refine aM gS rfl (gE af) ?_;refine aqB (m:=q) (by omega) hk.gR fun bb=>ai (fun g3=>aA (aC rfl (h.1 801 (by decide)))) (fun g3=>?_)
  rw [wI i];exact aaT q hq hk hS ab all ha ai6 b l hl cY h c (i+1) (by omega) (by omega)
theorem Ue (hm:140≤m) (hk:PH k) (hS:SH k t bg) {b:Bool} {fr:List Nat} (hf:fr.length≤50) {K:oS.T→OR} (h:D9 k t bg K Q):Wp (c139 (T m) b (fr.map aU) (WB k t bg) K) Q:=by
 obtain ⟨m,rfl⟩:=cG hm;have cY:=hk.gR.1;refine bH agY (eY (eY ?_));refine aep (m:=m) (by omega) hk.gR hf fun b1 l1 h1 jI=>?_
 refine aeg (m:=m) (by omega) h1 (by omega) fun b2 l2 h2 dX=>?_
 exact aaT m (by omega) hk hS b1 l1 h1 (by omega) b2 l2 h2 (by omega) h m 0 (by omega) (by omega)
def HY (k:PK) (bg:List (Bool×List Nat)) (K:s8.T→OR) (Q:V→List (List C)→Prop):Prop:=
 (∀x y err,err≠0→Wp (K ((x,err,()),y,())) Q)∧∀(tn:TN) t' jA,SH k t' jA→(∃x,jA=bg++x)→GN jA.length tn→Wp (K (((tn.kd,tn.pr,(tn.t,tn.ms.map cM),()),0,()),WB k t' jA,())) Q
theorem abN:∀l:List AM,aW (l.map cM)=l.map cM
 | []=>rfl
 | a::t=>by simp only [fS,aW,abN t];rfl
theorem adV (q:Nat) (hq:550≤q) (hk:PH k) (b:Bool) (l:List Nat) (hl:∀y∈l,jj k.role k.ps y) (cY:l.length≤24) (lb:Bool) (ls:List BB) (h6:ls.length≤6) (kd:Int) (oE:kd=1∨kd=2) (pr:BB) (a3:au jB) {x2:au bu} {K:s8.T→OR} (h:HY k bg K Q):∀(c i:Nat) (t:Tag) (jA:List (Bool×List Nat)) (o:List AM),ls.length - i < c→i≤ls.length→SH k t jA→(∃x,jA=bg++x)→(∀a∈o,a.nx < jA.length)→o.length=i→o≠[]→
  Wp (KO (T q) q x2 c b (l.map aU) (WB k t jA) a3 lb (ls.map aL) (kd,pr,o.map cM,()) (i:Int)) (J s8 K Q)
 | 0,i,t,jA,o,hc,_,_,_,_,_,_=>by omega
 | c+1,i,t,jA,o,hc,hi,hS,hx,ho,Zb,aB=>by
  refine aD al5 (ai (fun g1=>?_) (fun g1=>?_))
  ·have af:i < ls.length:=bM g1;refine aM rq rfl (gE af) ?_;refine Ub (m:=q) (by omega) hk hl cY fun Iz IC cb to is QN=>?_
   refine Ue (m:=q) (by omega) hk hS (by omega) ⟨fun err he=>?_,fun t' Tr j PD FL hj=>?_⟩
   ·refine gM (by simpa using he) (aA (aC rfl (h.1 _ _ _ he)))
   ·refine eH rfl ?_;refine aM rq rfl (gE af) (aE (hC (by simp;omega) (by omega)) ?_);obtain ⟨x,hx⟩:=hx;obtain ⟨y,hy⟩:=FL;rw [wI i];have:=adV q hq hk b l hl cY lb ls h6 kd oE pr a3 (x2:=x2) h c (i+1) t' Tr (o++[⟨ls[i],Iz,IC,j⟩]) (by omega) (by omega) PD ⟨x++y,by rw [hy,hx,eo]⟩
     (by intro a ha;rw [dC] at ha;rcases ha with ha | ha;have:=ho a ha;rw [hy];simp;omega;simp at ha;subst ha;exact hj) (by simp;omega) (by simp)
    rw [eg] at this;exact this
  ·refine aE ?_ (aE (by simp) (aA ?_))
   ·cases o with
    | nil=>exact absurd rfl aB
    | cons=>simp
   ·refine aC (x:=(((kd,pr,(false,o.map cM),()),0,()),WB k t jA,())) ?_ (h.2 ⟨kd,pr,false,o⟩ t jA hS hx (.inr ⟨oE,?_,by show o.length≤10;omega,ho⟩))
    ·show ik s8 (.aq [.agg [iC kd,sC pr,lC (.im false) 4 (aW (whole (o.map cM)))],_],_)=_;rw [dr,abN];rfl
    ·show 1≤o.length;cases o with
     | nil=>exact absurd rfl aB
     | cons=>simp
theorem aqc (q:Nat) (hq:550≤q) (hk:PH k) (hS:SH k t bg) (b:Bool) (l:List Nat) (hl:∀y∈l,jj k.role k.ps y) (cY:l.length≤24) (lb:Bool) (ls:List BB) (h6:ls.length≤6) (lM:ls≠[]) (kd:Int) (oE:kd=1∨kd=2) (pr:BB) (a3:au jB) {x2:au bu} {K:s8.T→OR} (h:HY k bg K Q) :
  Wp (Gj (T q) q x2 q b (l.map aU) (WB k t bg) a3 lb (ls.map aL) (kd,pr,(true,[]),()) 0) (J s8 K Q):=by
 obtain ⟨r,hr⟩:=bm 1 q;have e0:Gj (T q) q x2 q=Gj (T q) q x2 (r+1):=by rw [←hr]
 rw [e0];have af:0 < ls.length:=by cases ls with | nil=>exact absurd rfl lM | cons=>simp
 refine aD al4 (gM (bf (by rw [bJ];simp;omega)) ?_);refine aM rq (i:=0) rfl (gE af) ?_;refine Ub (m:=q) (by omega) hk hl cY fun Iz IC cb to is QN=>?_
 refine Ue (m:=q) (by omega) hk hS (by omega) ⟨fun err he=>?_,fun t' Tr j PD FL hj=>?_⟩
 ·refine gM (by simpa using he) (aA (aC rfl (h.1 _ _ _ he)))
 ·refine eH rfl ?_;refine aM rq (i:=0) rfl (gE af) (aE rfl ?_);exact adV q hq hk b l hl cY lb ls h6 kd oE pr a3 h r 1 t' Tr [⟨ls[0],Iz,IC,j⟩] (by omega) (by omega) PD FL (by intro a ha;simp at ha;subst ha;exact hj) rfl (by simp)
theorem adW (q:Nat) (hq:550≤q) (hk:PH k) (hS:SH k t bg) (b:Bool) (l:List Nat) (hl:∀y∈l,jj k.role k.ps y) (cY:l.length≤24) (lb:Bool) (ls:List BB) (h6:ls.length≤6) (lM:ls≠[]) (kd:Int) (oE:kd=1∨kd=2) (pr:BB) (a3:au jB) {x2:au bu} {K:s8.T→OR} (h:HY k bg K Q):∀(c i:Nat),ls.length - i < c→i≤ls.length→
  Wp (KP (T q) q x2 c b (l.map aU) (WB k t bg) a3 kd pr lb (ls.map aL) (i:Int)) (J s8 K Q)
 | 0,i,hc,_=>by omega
 | c+1,i,hc,hi=>by
  refine aD al6 (ai (fun g1=>?_) (fun g1=>aqc q hq hk hS b l hl cY lb ls h6 lM kd oE pr a3 h));have af:i < ls.length:=bM g1;refine aM rq rfl (gE af) ?_;refine Ub (m:=q) (by omega) hk hl cY fun Iz IC cb to is QN=>ai (fun g3=>aA (aC rfl (h.1 _ _ 804 (by decide)))) (fun g3=>?_)
  rw [wI i];exact adW q hq hk hS b l hl cY lb ls h6 lM kd oE pr a3 h c (i+1) (by omega) (by omega)
theorem aer (hm:560≤m) (hk:PH k) (hS:SH k t bg) {b:Bool} {l:List Nat} (hl:∀y∈l,jj k.role k.ps y) (cY:l.length≤24) {K:s8.T→OR} (h:HY k bg K Q):Wp (N3 (T m) b (l.map aU) (WB k t bg) K) Q:=by
 obtain ⟨m,rfl⟩:=cG hm;have self:∃x,bg=bg++x:=⟨[],by simp⟩
 refine bH ag3 (ai (fun g1=>aA (aC rfl (h.2 ⟨0,[],true,[]⟩ t bg hS self (.inl ⟨rfl,rfl⟩)))) (fun g1=>?_));have aB:l≠[]:=by intro h0;subst h0;cases g1
 refine aqx (m:=m) (by omega) hk hl cY fun kd pr err ajj=>ai (fun g2=>?_) (fun g2=>?_)
 ·have he:err≠0:=by simpa using g2
  exact aA (aC rfl (h.1 _ _ _ he))
 ·have he:err=0:=by simpa using g2
  have oE:=ajj he aB;refine aqz (m:=m) (by omega) hk hl cY fun lb ls al lM Jv=>?_
  obtain ⟨r,hr⟩:=bm 1 m;have e2:∀x,CU (T m) m x m=CU (T m) m x (r+1):=by intro x;rw [←hr]
  have rest:∀(x2:au bu) (a3:au jB),Wp (CU (T m) m x2 m b (l.map aU) (WB k t bg) a3 kd pr lb (ls.map aL)) (J s8 K Q):=by
   intro x2 a3;rw [e2];refine aD al7 (ai (fun g3=>aA (aC rfl (h.1 _ _ 805 (by decide)))) (fun g3=>?_));have h6:ls.length≤6:=by
    have:¬ ae (ls.map aL).length > 6:=kF g3;rw [bJ,cf] at this;omega
   exact adW m (by omega) hk hS b l hl cY lb ls h6 (lM aB) kd oE pr a3 h m 0 (by omega) (by omega)
  exact ai (fun g3=>ai (fun g4=>aA (aC rfl (h.1 _ _ 803 (by decide)))) (fun g4=>rest _ _)) (fun g3=>rest _ _)
end
end
section
open Go Go.ax QQ
def Sk (L:LR):Prop:=1≤L.ts.length∧L.ts.length≤100∧∀t∈L.ts,GN L.ts.length t
theorem Tb (n:Nat) (hn:60≤n) {x:BB} (hx:x∈lR):T n 64 [.one (sC x)] []=some (.one (bC true),[]):=by
 simp only [lR,gV,nB,nD] at hx;rcases hx with rfl | rfl | rfl | rfl | rfl | rfl | rfl | rfl | rfl | rfl | rfl | rfl | rfl | rfl;all_goals (obtain ⟨m,rfl⟩:=bm 60 n;kernel_rfl)
theorem aoM (n:Nat) (hn:60≤n) {k:Int} {x:BB} (hx:(k,x)∈iU):T n 54 [.agg [iC k,sC x]] []=some (.one (bC true),[]):=by
 simp only [iU,gV,nB,nD,fJ] at hx;rcases hx with ⟨rfl,rfl⟩ | ⟨rfl,rfl⟩ | ⟨rfl,rfl⟩ | ⟨rfl,rfl⟩ | ⟨rfl,rfl⟩ | ⟨rfl,rfl⟩ | ⟨rfl,rfl⟩ | ⟨rfl,rfl⟩ | ⟨rfl,rfl⟩ | ⟨rfl,rfl⟩ | ⟨rfl,rfl⟩ | ⟨rfl,rfl⟩ | ⟨rfl,rfl⟩;all_goals (obtain ⟨m,rfl⟩:=bm 60 n;kernel_rfl)
theorem ao0 (n:Nat) (hn:20≤n) (b:Bool) {many:Nat} (h2:2≤many) (h4:many≤4):T n 70 [.one (lC (.im b) 1 (da many))] []=some (.one (bC true),[]):=by
 obtain ⟨m,rfl⟩:=bm 20 n;have:many=2∨many=3∨many=4:=by omega
 rcases this with rfl | rfl | rfl;all_goals (show _=_;kernel_rfl)
theorem Ta (n:Nat) (hn:20≤n) (b:Bool) {many k:Nat} (h4:many≤4) (hk:k < many):T n 71 [.one (lC (.im b) 1 (da many)),.one (sC (bI k))] []=some (.one (bC true),[]):=by
 obtain ⟨m,rfl⟩:=bm 20 n;have h1:many=1∨many=2∨many=3∨many=4:=by omega
 have h2:k=0∨k=1∨k=2∨k=3:=by omega
 rcases h1 with rfl | rfl | rfl | rfl<;>rcases h2 with rfl | rfl | rfl | rfl<;>first | omega | (show _=_;kernel_rfl)
theorem G8 {k:Nat} (h:k < 5):bI k∈lR:=by
 match k,h with
 | 0,_=>decide
 | 1,_=>decide
 | 2,_=>decide
 | 3,_=>decide
 | 4,_=>decide
theorem an8 {many:Nat} {ps:List PT} (h:kX many ps):xW ps:=by
 refine ⟨by have:=h.2.2.2.1;omega,fun p hp=>?_⟩;rcases h.2.2.2.2 p hp with ⟨_,_,h3⟩ | ⟨k,m,_,_,_,_,_,h3⟩
 ·rw [h3];exact ⟨by simp,fun a ha=>by cases ha⟩
 ·exact ⟨by have:=h3.2.1;omega,fun a ha=>(h3.2.2.2 a ha).2.2⟩
theorem an7 {many:Nat} {ps:List PT} (h:kX many ps) {role:BB} (hr:role≠[]) (x:Nat) (hx:jj role ps x):∃p,ps[x]? = some p∧p.ms≠[]:=by
 obtain ⟨p,hp,kQ⟩:=hx;refine ⟨p,hp,?_⟩;rcases h.2.2.2.2 p (fm hp) with ⟨h1,h2,_⟩ | ⟨k,m,_,_,_,_,_,h3⟩
 ·rw [h1,h2] at kQ;have:([]==role)=false:=by cases role with | nil=>exact absurd rfl hr | cons=>rfl
  rw [this] at kQ;cases kQ
 ·have:=h3.1;intro h0;rw [h0] at this;simp at this
section
variable {m:Nat} {Q:V→List (List C)→Prop}
theorem VA (q:Nat) {l:List AM} (dj:l.length≤10) (b:Bool) (P:Int) (c1:Nat) {i:Nat} (hi:i < l.length) {K:bj.T→OR} (h:∀b,Wp (K (b,())) Q)
  (hZ:Wp (Ga (T q) q c1 b (l.map cM) P ((i+1:Nat):Int)) (J bj K Q)):∀(c j:Nat),i - j < c→j≤i→
  Wp (Kt (T q) q c1 c b (l.map cM) P (i:Int) (j:Int)) (J bj K Q)
 | 0,j,hc,_=>by omega
 | c+1,j,hc,hj=>by
  refine aD alr (ai (fun g1=>?_) (fun g1=>?_))
  ·have af:j < i:=by have:(j:Int) < (i:Int):=rU g1;omega
   refine aM Ds rfl (gE (show j < l.length by omega)) ?_;refine aM Ds rfl (gE hi) (ai (fun g2=>aA (aC rfl (h false))) (fun g2=>?_));rw [wI j];exact VA q dj b P c1 hi h hZ c (j+1) (by omega) (by omega)
  ·rw [wI i];exact hZ
theorem Vz (q:Nat) (hq:60≤q) {P0:Nat} {l:List AM} (hl:nc P0 l) (b:Bool) (P:Int) {K:bj.T→OR} (h:∀b,Wp (K (b,())) Q):∀(c i:Nat),l.length - i < c→i≤l.length→
  Wp (Ga (T q) q c b (l.map cM) P (i:Int)) (J bj K Q)
 | 0,i,hc,_=>by omega
 | c+1,i,hc,hi=>by
  have h3:=hl.2.1;obtain ⟨r,hr⟩:=bm 1 q;have e2:Ku (T q) q c q=Ku (T q) q c (r+1):=by rw [←hr]
  refine aD alq (ai (fun g1=>?_) (fun g1=>ai (fun g2=>aA (aC rfl (h _))) (fun g2=>aA (aC rfl (h false)))));have af:i < l.length:=bM g1;have hg:l[i]? = some l[i]:=gE af;obtain ⟨o1,o2,o3⟩:=hl.2.2.2 l[i] (bL af);refine aM Ds rfl hg ?_;refine kB (x:=(true,())) (Tb q (by omega) (aax o1)) rfl (eH rfl ?_);refine aM G1 rfl hg ?_;refine kB (x:=(true,())) (aoM q (by omega) o2) rfl (eH rfl ?_);refine aM yg rfl hg (ai (fun g2=>aA (aC rfl (h false))) (fun g2=>?_));refine aM yg rfl hg (ai (fun g2=>aA (aC rfl (h false))) (fun g2=>?_));rw [e2];refine aD als ?_;exact VA q (by omega) b P c af h (Vz q hq hl b P h c (i+1) (by omega) (by omega)) q 0 (by omega) (by omega)
theorem aqq (hm:70≤m) {P0:Nat} {l:List AM} (hl:nc P0 l) {b:Bool} {P:Int} {K:bj.T→OR} (h:∀b,Wp (K (b,())) Q):Wp (c72 (T m) b (l.map cM) P K) Q:=by
 obtain ⟨m,rfl⟩:=cG hm;have h3:=hl.2.1;exact bH agR (Vz m (by omega) hl b P h m 0 (by omega) (by omega))
theorem Sz (q:Nat) (hq:80≤q) {many:Nat} {ps:List PT} (hP:kX many ps) (nm:BB) (rb pb:Bool) {K:bj.T→OR} (h:∀b,Wp (K (b,())) Q):∀(c i:Nat),ps.length - i < c→i≤ps.length→
  Wp (Kv (T q) q c (nm,(rb,da many),(pb,ps.map cP),()) (i:Int)) (J bj K Q)
 | 0,i,hc,_=>by omega
 | c+1,i,hc,hi=>by
  have h8:=hP.2.2.2.1;have h4:=hP.2.1;obtain ⟨r,hr⟩:=bm 1 q;have e1:z6 (T q) q c q=z6 (T q) q c (r+1):=by rw [←hr]
  have e2:z7 (T q) q c q=z7 (T q) q c (r+1):=by rw [←hr]
  refine aD alu (ai (fun g1=>?_) (fun g1=>aA (aC rfl (h true))));have af:i < ps.length:=bM g1;have hg:ps[i]? = some ps[i]:=gE af;have eK:∀a2,Wp (z7 (T q) q c q (nm,(rb,da many),(pb,ps.map cP),()) (i:Int) a2) (J bj K Q):=by
   intro a2;rw [e2];refine aD aah ?_;rw [wI i];exact Sz q hq hP nm rb pb h c (i+1) (by omega) (by omega)
  have arp:∀j a2,Wp (z7 (T q) q c (j+1) (nm,(rb,da many),(pb,ps.map cP),()) (i:Int) a2) (J bj K Q):=by
   intro j a2;refine aD aah ?_;rw [wI i];exact Sz q hq hP nm rb pb h c (i+1) (by omega) (by omega)
  have mid:Wp (z6 (T q) q c q (nm,(rb,da many),(pb,ps.map cP),()) (i:Int) (ps[i].fr,ps[i].to,(ps[i].t,ps[i].ms.map cM),())) (J bj K Q):=by
   rw [e1];refine aD alv (ai (fun g2=>aA (aC rfl (h false))) (fun g2=>?_));rcases hP.2.2.2.2 _ (bL af) with ⟨o1,o2,o3⟩ | ⟨a,b',oa,ob,oab,of,ot,om⟩
   ·have g3:(ps[i].fr==ps[i].to)=false:=g2;rw [o1,o2] at g3;cases g3
   ·refine kB (x:=(true,())) (by show T q 71 [_,.one (sC ps[i].fr)] []=_;rw [of];exact Ta q (by omega) rb h4 oa) rfl (eH rfl ?_);refine kB (x:=(true,())) (by show T q 71 [_,.one (sC ps[i].to)] []=_;rw [ot];exact Ta q (by omega) rb h4 ob) rfl (eH rfl ?_);refine aqq (m:=q) (by omega) om fun b=>ai (fun g3=>aA (aC rfl (h false))) (fun g3=>eK _)
  refine aM Dr rfl hg ?_;exact ai (fun g2=>ai (fun g3=>ai (fun g4=>eK _) (fun g4=>mid)) (fun g3=>mid)) (fun g2=>mid)
theorem abW (q:Nat) (hq:80≤q) {many:Nat} {ps:List PT} (hP:kX many ps) (nm:BB) (rb pb:Bool) {K:bj.T→OR} (h:∀b,Wp (K (b,())) Q):∀(c i:Nat),many - i < c→i≤many→
  Wp (Kw (T q) q c (nm,(rb,da many),(pb,ps.map cP),()) (i:Int)) (J bj K Q)
 | 0,i,hc,_=>by omega
 | c+1,i,hc,hi=>by
  have h4:=hP.2.1;have h8:=hP.2.2.2.1;refine aD alw (ai (fun g1=>?_) (fun g1=>Sz q hq hP nm rb pb h q 0 (by omega) (by omega)));have af:i < many:=by
   have g2:(i:Int) < ae (da many).length:=rU g1;rw [bJ,pJ] at g2;omega
  refine aD (iI (v:=(bI i,())) rfl (nT af) (by simp) rfl rfl) ?_;refine kB (x:=(true,())) (Tb q (by omega) (G8 (by omega))) rfl (eH rfl ?_);rw [wI i];exact abW q hq hP nm rb pb h c (i+1) (by omega) (by omega)
theorem aej (hm:90≤m) {many:Nat} {ps:List PT} (hP:kX many ps) {nm:BB} (hn:nm∈lR) {rb pb:Bool} {K:bj.T→OR} (h:∀b,Wp (K (b,())) Q):Wp (N8 (T m) nm rb (da many) pb (ps.map cP) K) Q:=by
 obtain ⟨m,rfl⟩:=cG hm;have h4:=hP.2.1;refine bH agS ?_;refine kB (x:=(true,())) (Tb m (by omega) hn) rfl (eH rfl (ai (fun g=>aA (aC rfl (h false))) (fun g=>ai (fun g=>aA (aC rfl (h false))) (fun g=>?_))));refine kB (x:=(true,())) (ao0 m (by omega) rb hP.1 h4) rfl (eH rfl (ai (fun g=>aA (aC rfl (h false))) (fun g=>ai (fun g=>aA (aC rfl (h false))) (fun g=>?_))));obtain ⟨r,hr⟩:=bm 1 m;have e4:Ky (T m) m m=Ky (T m) m (r+1):=by rw [←hr]
 rw [e4];exact aD alx (abW m (by omega) hP nm rb pb h m 0 (by omega) (by omega))
def Nx (nf:BB) (K:yn.T→OR) (Q:V→List (List C)→Prop):Prop:=(∀x err,err≠0→Wp (K ((x,err,()),())) Q)∧∀L:LR,Sk L→L.nm=nf→Wp (K (((L.nm,(L.tb,L.ts.map cN),()),0,()),())) Q
theorem acE (q:Nat) (hq:570≤q) {k:PK} (hk:PH k) (a0:au oT) (nm:BB) {K:yn.T→OR} (h:Nx nm K Q):∀(c i:Nat) (t:Tag) (bg:List (Bool×List Nat)) (ts:List TN),45 - i < c→i≤bg.length→SH k t bg→ts.length=i→ts≠[]→(∀x∈ts,GN bg.length x)→
  Wp (Kz (T q) q c a0 (WB k t bg) (nm,ts.map cN,()) (i:Int)) (J yn K Q)
 | 0,i,t,bg,ts,hc,hi,hS,_,_,_=>by have:=hS.ln;omega
 | c+1,i,t,bg,ts,hc,hi,hS,hts,aB,aS=>by
  have Jb:=hS.ln;have Ch:1≤ts.length:=by cases ts with | nil=>exact absurd rfl aB | cons=>simp
  have tY:∀a:Bool×List Nat,0+1≤(kK a).length∧dS [.im 1] (List.take 1 (List.drop 0 (kK a)))=some ((a.1,a.2.map aU),()):=fun a=>⟨by simp [kK],rfl⟩
  refine aD alz ?_;have ht:t = .own:=by
   rcases hS.no with ht | ⟨_,hn⟩
   ·exact ht
   ·rw [hn] at hi;simp at hi;omega
  subst ht;refine je (ai (fun g1=>?_) (fun g1=>?_))
  ·have af:i < bg.length:=bM g1;have hs:=hS.ok _ (bL af);refine nZ (enc:=kK) (f:=fun a=>((a.1,a.2.map aU),())) tY rfl (gE af) ?_;refine aer (m:=q) (by omega) hk hS hs.1 hs.2 ⟨fun x y err he=>?_,fun tn t' jA vj hx Qy=>?_⟩
   ·exact gM (by simpa using he) (aA (aC rfl (h.1 _ _ he)))
   ·refine eH rfl (aE (hC (by simp;omega) (by omega)) ?_);obtain ⟨y,hy⟩:=hx;rw [wI i];have mc:bg.length≤jA.length:=by rw [hy];simp
    have:=acE q hq hk a0 nm h c (i+1) t' jA (ts++[tn]) (by omega) (by omega) vj (by simp;omega) (by simp)
     (by
       intro x hx
       rw [dC] at hx
       rcases hx with hx | hx
       · rcases aS x hx with h1 | ⟨h1, h2, h3, h4⟩
         · exact .inl h1
         · exact .inr ⟨h1, h2, h3, fun a ha => by have := h4 a ha; omega⟩
       · simp at hx; subst hx; exact Qy)
    rw [eg] at this;exact this
  ·have eP:i=bg.length:=by
    have g2:¬ (i:Int) < ae (bg.map kK).length:=kF g1;rw [bJ,cf] at g2;omega
   refine aE ?_ (aE (by simp) (aA ?_))
   ·cases ts with
    | nil=>exact absurd rfl aB
    | cons=>simp
   ·refine aC (x:=(((nm,(false,ts.map cN),()),0,()),())) ?_ (h.2 ⟨nm,false,ts⟩ ⟨Ch,by show ts.length≤100;omega,by rw [←eP,←hts] at aS;exact aS⟩ rfl);show ik yn (.aq [.agg [sC nm,lC (.im false) 3 (aW (whole (ts.map cN)))],_],_)=_;rw [dr,Ss];rfl
theorem aoY (q:Nat) (hq:570≤q) {k:PK} (hk:PH k) (a0:au oT) (nm:BB) {K:yn.T→OR} (h:Nx nm K Q) {t:Tag} {bg:List (Bool×List Nat)} (hS:SH k t bg) (hp:0 < bg.length) :
  Wp (Gb (T q) q q a0 (WB k t bg) (nm,(true,[]),()) 0) (J yn K Q):=by
 obtain ⟨r,hr⟩:=bm 1 q;have e0:Gb (T q) q q=Gb (T q) q (r+1):=by rw [←hr]
 have tY:∀a:Bool×List Nat,0+1≤(kK a).length∧dS [.im 1] (List.take 1 (List.drop 0 (kK a)))=some ((a.1,a.2.map aU),()):=fun a=>⟨by simp [kK],rfl⟩
 rw [e0];refine aD aly ?_;have ht:t = .own:=by
  rcases hS.no with ht | ⟨_,hn⟩
  ·exact ht
  ·rw [hn] at hp;simp at hp
 subst ht;refine je (gM (bf (by show (0:Int) < ae (bg.map kK).length;rw [bJ];simp;omega)) ?_);have hs:=hS.ok _ (bL hp);refine nZ (enc:=kK) (f:=fun a=>((a.1,a.2.map aU),())) tY (i:=0) rfl (gE hp) ?_;refine aer (m:=q) (by omega) hk hS hs.1 hs.2 ⟨fun x y err he=>?_,fun tn t' jA vj hx Qy=>?_⟩
 ·exact gM (by simpa using he) (aA (aC rfl (h.1 _ _ he)))
 ·obtain ⟨y,hy⟩:=hx;have mc:bg.length≤jA.length:=by rw [hy];simp
  refine eH rfl (aE rfl ?_);exact acE q hq hk a0 nm h r 1 t' jA [tn] (by omega) (by omega) vj rfl (by simp) (by intro x hx;simp at hx;subst hx;exact Qy)
theorem aem (hm:600≤m) {many:Nat} {ps:List PT} (hP:kX many ps) {nm:BB} (hn:nm∈lR) (nM:nm.length≤20) {rb pb:Bool} {i:Nat} (hi:i < many) {K:yn.T→OR} (h:Nx (nm++[46]++bI i) K Q):Wp (Oc (T m) nm rb (da many) pb (ps.map cP) (bI i) K) Q:=by
 obtain ⟨m,rfl⟩:=cG hm;have h4:=hP.2.1;refine bH agT ?_;refine aej (m:=m) (by omega) hP hn fun b=>ai (fun g=>aA (aC rfl (h.1 _ 800 (by decide)))) (fun g=>?_)
 refine kB (x:=(true,())) (Ta m (by omega) rb h4 hi) rfl (eH rfl ?_);obtain ⟨r,hr⟩:=bm 1 m;have e1:KA (T m) m m=KA (T m) m (r+1):=by rw [←hr]
 rw [e1];refine aD alA ?_;have hk:PH ⟨nm,rb,da many,pb,ps,bI i⟩:=⟨an8 hP,an7 hP (by simp [bI])⟩
 have hS:SH ⟨nm,rb,da many,pb,ps,bI i⟩ (.im true) []:=⟨.inr ⟨rfl,rfl⟩,fun h0=>(by cases h0),by simp,fun x hx=>(by cases hx)⟩
 refine Ue (m:=m) (k:=⟨nm,rb,da many,pb,ps,bI i⟩) (fr:=[0]) (by omega) hk hS (by simp) ⟨fun err he=>?_,fun t' jA j vj hx hj=>?_⟩
 ·exact gM (by simpa using he) (aA (aC rfl (h.1 _ _ he)))
 ·refine eH rfl (cz (by show nm.length+1≤_;omega) (cz (by show (nm++[46]).length+(bI i).length≤_;simp [bI];omega) ?_));exact aoY m (by omega) hk _ _ h vj (by omega)
def GM (nm:BB) (L:LR):Prop:=Sk L∧∃i,i < 4∧L.nm=nm++[46]++bI i
def U7 (nm:BB) (n:Nat) (K:Hc.T→OR) (Q:V→List (List C)→Prop):Prop:=∀b (Ls:List LR) z err,Ls.length≤n→(∀L∈Ls,GM nm L)→Wp (K (((b,Ls.map mN),z,err,()),())) Q
theorem abM:∀l:List LR,aW (l.map mN)=l.map mN
 | []=>rfl
 | a::t=>by simp only [fS,aW,abM t];rfl
theorem Vn (q:Nat) (hq:610≤q) {many:Nat} {ps:List PT} (hP:kX many ps) {nm:BB} (hn:nm∈lR) (nM:nm.length≤20) {rb pb:Bool} {K:Hc.T→OR} (h:U7 nm many K Q):∀(c i:Nat) (Ls:List LR),many - i < c→i≤many→Ls.length=i→(∀L∈Ls,GM nm L)→
  Wp (Ks (T q) q c (nm,(rb,da many),(pb,ps.map cP),()) (Ls.map mN) (i:Int)) (J Hc K Q)
 | 0,i,Ls,hc,_,_,_=>by omega
 | c+1,i,Ls,hc,hi,hl,aS=>by
  have h4:=hP.2.1;refine aD alp (ai (fun g1=>?_) (fun g1=>?_))
  ·have af:i < many:=by
    have g2:(i:Int) < ae (da many).length:=rU g1;rw [bJ,pJ] at g2;omega
   refine aD (iI (v:=(bI i,())) rfl (nT af) (by simp) rfl rfl) ?_;refine aem (m:=q) (by omega) hP hn nM af ⟨fun x err he=>?_,fun L hL Pz=>?_⟩
   ·exact gM (by simpa using he) (aA (aC rfl (h true [] _ _ (by simp) (fun L hL=>by cases hL))))
   ·refine eH rfl (aE (hC (by simp;omega) (by omega)) ?_);rw [wI i];have:=Vn q hq hP hn nM h c (i+1) (Ls++[L]) (by omega) (by omega) (by simp;omega) (by intro x hx;rw [dC] at hx;rcases hx with hx | hx;exact aS x hx;simp at hx;subst hx;exact ⟨hL,i,by omega,Pz⟩) (rb:=rb) (pb:=pb);rw [eg] at this;exact this
  ·refine aE (by simp) ?_;rw [dr,abM];exact aA (aC rfl (h false Ls 0 0 (by omega) aS))
theorem T' (hm:620≤m) {many:Nat} {ps:List PT} (hP:kX many ps) {nm:BB} (hn:nm∈lR) (nM:nm.length≤20) {rb pb:Bool} {K:Hc.T→OR} (h:U7 nm many K Q):Wp (Bi (T m) nm rb (da many) pb (ps.map cP) K) Q:=by
 obtain ⟨m,rfl⟩:=cG hm;have h2:=hP.1;have h4:=hP.2.1;refine bH agQ ?_;refine aej (m:=m) (by omega) hP hn fun b=>ai (fun g=>aA (aC rfl (h true [] _ _ (by simp) (fun L hL=>by cases hL)))) (fun g=>?_)
 obtain ⟨r,hr⟩:=bm 1 m;have e0:Kr (T m) m m=Kr (T m) m (r+1):=by rw [←hr]
 rw [e0];refine aD alo (gM (bf (by show (0:Int) < ae (da many).length;rw [bJ,pJ];omega)) ?_);refine aD (iI (v:=(bI 0,())) (i:=0) rfl (nT (by omega)) (by simp) rfl rfl) ?_;refine aem (m:=m) (by omega) hP hn nM (by omega) ⟨fun x err he=>?_,fun L hL Pz=>?_⟩
 ·exact gM (by simpa using he) (aA (aC rfl (h true [] _ _ (by simp) (fun L hL=>by cases hL))))
 ·refine eH rfl (aE rfl ?_);exact Vn m (by omega) hP hn nM h r 1 [L] (by omega) (by omega) rfl (by intro x hx;simp at hx;subst hx;exact ⟨hL,0,by omega,Pz⟩)
end
end
section
open Go Go.ax QQ
structure PS where
 kd:Int
 nm:BB
 pr:BB
 lb:BB
 pc:BB
 tm:Int
 gt:Bool
 ag:List Int
 ct:Bool
 cs:List CR
 wb:Bool
 ws:List WR
 nx:Int
def cq (s:PS):List D:=[.int .i64 s.kd,.str s.nm,.str s.pr,.str s.lb,.str s.pc,.int .i64 s.tm,.sl (.im s.gt) 1 (s.ag.map bF),.sl (.im s.ct) 3 (s.cs.map eC),.sl (.im s.wb) 3 (s.ws.map cW),.int .i64 s.nx]
def mA (s:PS):Prop:=s.ag.length≤100∧s.cs.length≤100∧(∀c∈s.cs,c.ag.length≤100)∧s.ws.length≤100
structure PC where
 nm:BB
 pb:Bool
 pm:List (BB×Int×BB)
 tb:Bool
 tm:List TM
 sb:Bool
 ss:List PS
def eJ (x:BB×Int×BB):List D:=[.str x.1,.int .i64 x.2.1,.str x.2.2]
theorem G2:∀a:BB×Int×BB,0+3≤(eJ a).length∧dS DC (List.take 3 (List.drop 0 (eJ a)))=some ((fun x=>(x.1,x.2.1,x.2.2,())) a):=(fun a=>⟨by simp [eJ],rfl⟩)
def dK (p:PC):List D:=[.str p.nm,.sl (.im p.pb) 3 (p.pm.map eJ),.sl (.im p.tb) 6 (p.tm.map bz),.sl (.im p.sb) 10 (p.ss.map cq)]
theorem acn:∀a:PC,1+1≤(dK a).length∧dS [DS.im 3] (List.take 1 (List.drop 1 (dK a)))=some ((fun p=>((p.pb,p.pm.map eJ),())) a):=(fun a=>⟨by simp [dK],rfl⟩)
structure gx (p:PC):Prop where
 n1:p.nm.length≤40
 p1:p.pm.length≤2
 p2:∀x∈p.pm,(x.2.1,x.2.2)∈iU∧(x.1=[99]∨x.1=[110])
 t1:p.tm.length≤40000000
 t2:jk p.tm
 s0:1≤p.ss.length
 s1:p.ss.length≤40000000
 s2:∀s∈p.ss,mA s
theorem abU:∀l:List WR,aW (l.map cW)=l.map cW
 | []=>rfl
 | a::t=>by simp only [fS,aW,abU t];rfl
theorem Sy:∀l:List TM,aW (l.map bz)=l.map bz
 | []=>rfl
 | a::t=>by simp only [fS,aW,Sy t];rfl
theorem Sv:∀l:List (BB×Int×BB),aW (l.map eJ)=l.map eJ
 | []=>rfl
 | a::t=>by simp only [fS,aW,Sv t];rfl
theorem Sw:∀l:List SR,(∀s∈l,nQ s)→∃pl:List PS,aW (l.map cS)=pl.map cq∧pl.length=l.length∧∀p∈pl,mA p
 | [],_=>⟨[],rfl,rfl,fun p hp=>(by cases hp)⟩
 | s::t,h=>by
  obtain ⟨pl,h1,h2,h3⟩:=Sw t (fun x hx=>h x (kE _ hx));obtain ⟨⟨ag,e1,l1⟩,⟨cs,e2,l2,l2'⟩,⟨ws,e3,l3⟩,hw⟩:=h s jT;have:∃wb,Dk (cS s)=cq ⟨s.kd,s.nm,s.pr,s.lb,s.pc,s.tm,s.gt,ag,s.ct,cs,wb,ws,s.nx⟩:=by
   rcases hw with hw | ⟨hw,_⟩
   ·refine ⟨false,?_⟩;show [_,_,_,_,_,_,kY (.sl (.im s.gt) 1 s.ag),kY (.sl (.im s.ct) 3 s.cs),kY (.sl s.wt 3 s.ws),_]=_;rw [hw,e1,e2,e3];show [_,_,_,_,_,_,_,_,D.sl (.im false) 3 (aW (ws.map cW)),_]=_;rw [abU];rfl
   ·refine ⟨true,?_⟩;show [_,_,_,_,_,_,kY (.sl (.im s.gt) 1 s.ag),kY (.sl (.im s.ct) 3 s.cs),kY (.sl s.wt 3 s.ws),_]=_;rw [hw,e1,e2,e3];rfl
  obtain ⟨wb,hp⟩:=this;refine ⟨⟨s.kd,s.nm,s.pr,s.lb,s.pc,s.tm,s.gt,ag,s.ct,cs,wb,ws,s.nx⟩::pl,?_,by simp [h2],?_⟩
  ·simp only [fS,aW,h1,hp]
  ·intro p jJ;rcases gV.1 jJ with rfl | jJ
   ·exact ⟨l1,l2,l2',l3⟩
   ·exact h3 p jJ
section
variable {m:Nat} {Q:V→List (List C)→Prop} {d:au ao}
def Nv (K:nV.T→OR) (Q:V→List (List C)→Prop):Prop:=∀(p:PC) d',gx p→cT d'→Wp (K ((p.nm,(p.pb,p.pm.map eJ),(p.tb,p.tm.map bz),(p.sb,p.ss.map cq),()),d',())) Q
theorem zk {r:RR} (h:r≠[]):(r.length==r.length && !r.isEmpty)=true:=by
 cases r with
 | nil=>exact absurd rfl h
 | cons=>simp
theorem aeh (hm:320≤m) {pb:Bool} {dx:List PR} (h0:dx≠[]) (h1:dx.length≤10) (h2:∀p∈dx,uw p) {nm:BB} (hn:nm.length≤20) {rb tb yb:Bool} {rs:List BB} {gR:RR} {Ls:List LR} {i:Nat} {L:LR} (hi:i < rs.length) (gF:∀s∈rs,s.length≤20) (hL:Ls[i]? = some L) (aS:Sk L) {carry:BB} (hc:((5:Int),carry)∈iU) (hd:cT d) {K:nV.T→OR} (h:Nv K Q) :
  Wp (N9 (T m) pb (dx.map cZ) nm rb (rs.map fun s=>[.str s]) tb gR yb (Ls.map mN) (i:Int) carry d K) Q:=by
 obtain ⟨m,rfl⟩:=cG hm;refine bH agE ?_;refine aM (enc:=fun s:BB=>[D.str s]) (f:=fun s=>(s,())) (fun a=>⟨by simp,rfl⟩) rfl (zj hi) ?_;refine Hv (m:=m) (by omega) hn (gF _ (bL hi)) fun s hs=>?_
 refine jS (m:=m) (n:=7) (by omega) (by omega) (by omega) hd fun j d1 hj cL=>?_
 have hw:ak (9+(j:Int))=((9+j:Nat):Int):=fY;rw [hw];have hk:KH ⟨pb,dx,s,(.own,[(([99]:BB),(5:Int),carry),([110],1,[])].map eJ),s,yb,Ls,(i:Int)⟩:=⟨h0,h1,h2,⟨i,L,rfl,hL,aS⟩⟩
 have hR:RL ⟨pb,dx,s,(.own,[(([99]:BB),(5:Int),carry),([110],1,[])].map eJ),s,yb,Ls,(i:Int)⟩ L:=⟨⟨i,rfl,hL⟩,aS.1,aS.2.1,aS.2.2⟩
 have H:WH 0 (.im true) [] (.im true) [] 0 ((9+j:Nat):Int):=⟨.inr ⟨rfl,rfl⟩,.inr ⟨rfl,rfl⟩,by simp,by simp,(fun i t ht=>by simp at ht),(fun s hs=>by cases hs),⟨0,rfl,by omega⟩,by omega,by omega,(fun h=>by cases h),(fun h=>by cases h)⟩
 refine VM 5 (by omega) m 0 _ L (.im true) (.im true) [] [] 0 ((9+j:Nat):Int) d1 0 _ _ (by omega) (by decide) hk hR (by have:=aS.1;omega) H cL ?_;intro lj dB ss' oN gT d' H' hx dz;obtain ⟨pl,e1,e2,e3⟩:=Sw ss' H'.kS;have hB:0+Bd 5≤40000000:=by decide
 have qi:=H'.nt;have Fy:=H'.ns;have mj:=H'.se rfl;have Cm:(ss'.map cS)≠[]:=by simpa using mj
 have nJ:1≤pl.length:=by
  rw [e2];cases ss' with | nil=>exact absurd rfl mj | cons=>simp
 have fin:∀tb,Wp (K ((s,(false,[(([99]:BB),(5:Int),carry),([110],1,[])].map eJ),(tb,dB.map bz),(false,pl.map cq),()),d',())) Q:=fun tb=>
  h ⟨s,false,[([99],5,carry),([110],1,[])],tb,dB,false,pl⟩ d' ⟨hs,by simp,(by intro x hx;simp at hx;rcases hx with rfl | rfl;exact ⟨hc,.inl rfl⟩;exact ⟨by decide,.inr rfl⟩),by show dB.length≤_;omega,H'.kT,nJ,by show pl.length≤_;omega,e3⟩ dz
 refine je ?_;rcases H'.ot with ht | ⟨ht,_⟩<;>subst ht
 ·have Cn:=H'.te rfl;have FG:(dB.map bz)≠[]:=by simpa using Cn
  refine je (je (aE rfl (aE (zk FG) (aE (zk Cm) (aE rfl (aE (by simp) (aE (by simp) (aA ?_))))))));refine aC (x:=((s,(false,[(([99]:BB),(5:Int),carry),([110],1,[])].map eJ),(false,dB.map bz),(false,pl.map cq),()),d',())) ?_ (fin false);show ik nV (.agg [sC s,lC (.im false) 3 (aW (whole ([(([99]:BB),(5:Int),carry),([110],1,[])].map eJ))),lC (.im false) 6 (aW (whole (dB.map bz))),lC (.im false) 10 (aW (whole (ss'.map cS)))],_)=_;rw [dr,dr,dr,Sv,Sy,e1];rfl
 ·refine eY (je (aE rfl (aE (zk Cm) (aE rfl (aE (by simp) (aA ?_))))));refine aC (x:=((s,(false,[(([99]:BB),(5:Int),carry),([110],1,[])].map eJ),(true,dB.map bz),(false,pl.map cq),()),d',())) ?_ (fin true);show ik nV (.agg [sC s,lC (.im false) 3 (aW (whole ([(([99]:BB),(5:Int),carry),([110],1,[])].map eJ))),lC (.im true) 6 (dB.map bz),lC (.im false) 10 (aW (whole (ss'.map cS)))],_)=_;rw [dr,dr,Sv,e1];rfl
def mK (pb:Bool) (dx:List PR):WK:=⟨pb,dx,[109,97,105,110],(.im true,[]),[],true,[],0⟩
theorem aaW (q:Nat) (hq:200≤q) {pb:Bool} {dx:List PR} {n i N:Nat} (hN:N≤1000) (hi:i < n) (hn:n≤3) {tt st:Tag} {tm:List TM} {ss:List SR} {nz rm:Int} (H:WH N tt tm st ss nz rm) (hd:cT d) {p:PR} (hp:uw p) {ro:BB} (zG:ro.length≤20) {e:BB} {x2:au ao} {c1:Nat} {a3:au fu} {aO:Int} {K:nV.T→OR}
  (h:∀lj dB ss' gT d',WH (N+3) lj dB .own ss' nz gT→cT d'→Wp (F7 (T q) q x2 c1 pb (dx.map cZ) d' a3 (Ws (mK pb dx) lj dB ss' nz gT) (n:Int) ((i+1:Nat):Int)) (J nV K Q)) :
  Wp (uk (T q) q x2 c1 q pb (dx.map cZ) d a3 (W (mK pb dx) tt tm st ss nz rm) (n:Int) (i:Int) (p.nm,(p.rt,p.rs.map fun s=>[.str s]),(p.pt,p.gR),()) ro e (aO,[],[],[],[],-1,(true,[]),(true,[]),(true,[]),-1,())) (J nV K Q):=by
 obtain ⟨r,hr⟩:=bm 1 q;have e1:uk (T q) q x2 c1 q=uk (T q) q x2 c1 (r+1):=by rw [←hr]
 rw [e1];have lt:=H.nt;have ls:=H.ns;have r1:=H.r1;have r2:=H.r2;have hw:=wI i;refine aD ak0 ?_;refine Hv (m:=q) (by omega) hp.1 zG fun s hs=>?_
 refine rM (m:=q) (k:=mK pb dx) (by omega) (by omega) H.ot ?_;refine jS (m:=q) (n:=4) (by omega) (by omega) (by omega) hd fun j d1 hj cL=>?_
 refine w_num (m:=q) (k:=mK pb dx) (by omega) (by simp;omega) (.inl rfl) ?_;have H2:=H.terms (M:=N+2) (dB:=tm++[⟨0,e,0,[],-1,-1⟩]++[⟨1,[],(j:Int),[],-1,-1⟩]) (by omega) (by simp;omega) (qt (qt H.kT ⟨.inl rfl,rfl,rfl,jb⟩) ⟨.inr (.inl rfl),rfl,rfl,jb⟩);have okc:∀{y1 y2:Int} {z:Int} {a:Int},nQ ⟨a,[],[],[],s,-1,false,[[.int .i64 y1],[.int .i64 y2]],true,[],.im true,[],z⟩:=fun {y1 y2 z a} => ⟨⟨[y1,y2],rfl,by simp⟩,⟨[],rfl,by simp,by simp⟩,⟨[],rfl,by simp⟩,.inr ⟨rfl,rfl⟩⟩
 refine ai (fun g=>?_) (fun g=>?_)
 ·refine wF (m:=q) (k:=mK pb dx) (by omega) (by omega) H.os (by omega) (by omega) ?_;rw [hw];exact h _ _ _ _ _ (H2.step okc) cL
 ·refine uK (m:=q) (k:=mK pb dx) (by omega) (by omega) H.os (by omega) (by omega) ?_;rw [hw];exact h _ _ _ _ _ (H2.step okc) cL
theorem aaV (q:Nat) (hq:200≤q) {pb:Bool} {dx:List PR} (h0:dx≠[]) (h1:dx.length≤10) (h2:∀p∈dx,uw p) {n:Nat} (hn:n≤3) {x2:au ao} {a3:au fu} {K:nV.T→OR} (h:Nv K Q):∀(c i:Nat) (tt:Tag) (tm:List TM) (ss:List SR) (nz rm:Int) (d:au ao),5 - i < c→i≤n→WH (20 * i) tt tm .own ss nz rm→cT d→
  Wp (F7 (T q) q x2 c pb (dx.map cZ) d a3 (Ws (mK pb dx) tt tm ss nz rm) (n:Int) (i:Int)) (J nV K Q)
 | 0,i,tt,tm,ss,nz,rm,d,hc,hi,_,_=>by omega
 | c+1,i,tt,tm,ss,nz,rm,d,hc,hi,H,hd=>by
  have cr:1≤dx.length:=by cases dx with | nil=>exact absurd rfl h0 | cons=>simp
  refine aD akZ (ai (fun g1=>?_) (fun g1=>?_))
  ·have af:i < n:=by have:(i:Int) < (n:Int):=rU g1;omega
   refine jS (m:=q) (n:=(dx.map cZ).length) (by omega) (by simp;omega) (by simp;omega) hd fun j d1 hj cL=>?_
   have vw:j < dx.length:=by simpa using hj
   have hp:=h2 _ (bL vw);refine aM Av rfl (gE vw) ?_;refine jS (m:=q) (n:=(dx[j].rs.map fun s=>[D.str s]).length) (by omega) (by have:=hp.2.1;simp;omega) (by have:=hp.2.2.1;simp;omega) cL fun j2 d2 lr fh=>?_
   have Fg:j2 < dx[j].rs.length:=by simpa using lr
   refine aM (enc:=fun s:BB=>[D.str s]) (f:=fun s=>(s,())) (fun a=>⟨by simp,rfl⟩) rfl (zj Fg) ?_;refine Ug (m:=q) (k:=mK pb dx) (tm:=tm) (st:=.own) (ss:=ss) (by omega) (N:=20 * i) (by omega) H fh hp fun s ti rG wv sW s7 d3 H1 vJ sy=>mG (m:=q) (by omega) ?_
   have eK:∀aO,Wp (uk (T q) q x2 c q pb (dx.map cZ) d3 a3 (W (mK pb dx) ti rG .own wv sW s7) (n:Int) (i:Int) (dx[j].nm,(dx[j].rt,dx[j].rs.map fun s=>[.str s]),(dx[j].pt,dx[j].gR),()) dx[j].rs[j2] s (aO,[],[],[],[],-1,(true,[]),(true,[]),(true,[]),-1,())) (J nV K Q):=fun aO=>
    aaW q hq (N:=20 * i+12) (by omega) af hn H1 sy hp (hp.2.2.2 _ (bL Fg)) fun DO DI yu Du d4 H2 zw=>
     aaV q hq h0 h1 h2 hn h c (i+1) DO DI yu sW Du d4 (by omega) (by omega) (H2.le (by omega)) zw
   exact ai (fun g2=>mG (m:=q) (by omega) (eK _)) (fun g2=>eK _)
  ·obtain ⟨pl,e1,e2,e3⟩:=Sw ss H.kS;have qi:=H.nt;have Fy:=H.ns;have mj:=H.se rfl;have Cm:(ss.map cS)≠[]:=by simpa using mj
   have nJ:1≤pl.length:=by
    rw [e2];cases ss with | nil=>exact absurd rfl mj | cons=>simp
   have fin:∀tb,Wp (K (([109,97,105,110],(true,[]),(tb,tm.map bz),(false,pl.map cq),()),d,())) Q:=fun tb=>
    h ⟨[109,97,105,110],true,[],tb,tm,false,pl⟩ d ⟨by simp,by simp,(by intro x hx;simp at hx),by show tm.length≤_;omega,H.kT,nJ,by show pl.length≤_;omega,e3⟩ hd
   refine eY ?_;rcases H.ot with ht | ⟨ht,_⟩<;>subst ht
   ·have Cn:=H.te rfl;have FG:(tm.map bz)≠[]:=by simpa using Cn
    refine je (aE (zk FG) (aE (zk Cm) (aE (by simp) (aE (by simp) (aA ?_)))));refine aC (x:=(([109,97,105,110],(true,[]),(false,tm.map bz),(false,pl.map cq),()),d,())) ?_ (fin false);show ik nV (.agg [sC _,lC (.im true) 3 [],lC (.im false) 6 (aW (whole (tm.map bz))),lC (.im false) 10 (aW (whole (ss.map cS)))],_)=_;rw [dr,dr,Sy,e1];rfl
   ·refine eY (aE (zk Cm) (aE (by simp) (aA ?_)));refine aC (x:=(([109,97,105,110],(true,[]),(true,tm.map bz),(false,pl.map cq),()),d,())) ?_ (fin true);show ik nV (.agg [sC _,lC (.im true) 3 [],lC (.im true) 6 (tm.map bz),lC (.im false) 10 (aW (whole (ss.map cS)))],_)=_;rw [dr,e1];rfl
theorem aef (hm:320≤m) {pb:Bool} {dx:List PR} (h0:dx≠[]) (h1:dx.length≤10) (h2:∀p∈dx,uw p) (hd:cT d) {K:nV.T→OR} (h:Nv K Q):Wp (N' (T m) pb (dx.map cZ) d K) Q:=by
 obtain ⟨m,rfl⟩:=cG hm;have cr:1≤dx.length:=by cases dx with | nil=>exact absurd rfl h0 | cons=>simp
 refine bH agA ?_;refine jS (m:=m) (n:=3) (by omega) (by omega) (by omega) hd fun j d1 hj cL=>?_
 have hw:ak (1+(j:Int))=((1+j:Nat):Int):=fY;rw [hw];obtain ⟨r,hr⟩:=bm 1 m;have e0:∀x,Kh (T m) m x m=Kh (T m) m x (r+1):=by intro x;rw [←hr]
 rw [e0];refine aD akY (gM (bf (by omega)) ?_);refine jS (m:=m) (n:=(dx.map cZ).length) (by omega) (by simp;omega) (by simp;omega) cL fun j1 d2 xo fh=>?_
 have vw:j1 < dx.length:=by simpa using xo
 have hp:=h2 _ (bL vw);refine aM Av rfl (gE vw) ?_;refine jS (m:=m) (n:=(dx[j1].rs.map fun s=>[D.str s]).length) (by omega) (by have:=hp.2.1;simp;omega) (by have:=hp.2.2.1;simp;omega) fh fun j2 d3 lr sy=>?_
 have Fg:j2 < dx[j1].rs.length:=by simpa using lr
 refine aM (enc:=fun s:BB=>[D.str s]) (f:=fun s=>(s,())) (fun a=>⟨by simp,rfl⟩) rfl (zj Fg) ?_;have H:WH 0 (.im true) [] (.im true) [] 0 0:=⟨.inr ⟨rfl,rfl⟩,.inr ⟨rfl,rfl⟩,by simp,by simp,(fun i t ht=>by simp at ht),(fun s hs=>by cases hs),⟨0,rfl,by omega⟩,by omega,by omega,(fun h=>by cases h),(fun h=>by cases h)⟩
 refine Ug (m:=m) (k:=mK pb dx) (tt:=.im true) (tm:=[]) (st:=.im true) (ss:=[]) (nz:=0) (rm:=0) (by omega) (N:=0) (by omega) H sy hp fun s ti rG wv sW s7 d4 H1 vJ zw=>mG (m:=m) (by omega) ?_
 have eK:∀(x2:au ao) (a3:au fu) (aO:Int),Wp (uk (T m) m x2 r m pb (dx.map cZ) d4 a3 (W (mK pb dx) ti rG .own wv sW s7) ((1+j:Nat):Int) ((0:Nat):Int) (dx[j1].nm,(dx[j1].rt,dx[j1].rs.map fun s=>[.str s]),(dx[j1].pt,dx[j1].gR),()) dx[j1].rs[j2] s (aO,[],[],[],[],-1,(true,[]),(true,[]),(true,[]),-1,())) (J nV K Q):=fun x2 a3 aO=>
  aaW m (by omega) (N:=12) (by omega) (by omega) (by omega) (H1.le (by omega)) zw hp (hp.2.2.2 _ (bL Fg)) fun DO DI yu Du d5 H2 E7=>
   aaV m (by omega) h0 h1 h2 (by omega) h r 1 DO DI yu sW Du d5 (by omega) (by omega) (H2.le (by omega)) E7
 exact ai (fun g2=>mG (m:=m) (by omega) (eK _ _ _)) (fun g2=>eK _ _ _)
end
end
section
open Go Go.ax PT QQ
def NL (s:List UInt8):Prop:=∀c∈s,c≠10
theorem eO {a b:List UInt8}:NL (a++b)↔NL a∧NL b:=by
 simp only [NL,dC];exact ⟨fun h=>⟨fun c hc=>h c (.inl hc),fun c hc=>h c (.inr hc)⟩,fun h c hc=>hc.elim (h.1 c) (h.2 c)⟩
theorem yL:NL []:=fun c hc=>by cases hc
theorem cj {l:List UInt8} (h:(l.all fun c=>c != 10)=true:=by rfl):NL l:=fun c hc=>by simpa using lH.1 h c hc
theorem uX {a:UInt8} {l:List UInt8}:NL (a::l)↔a≠10∧NL l:=by simp [NL]
theorem JU {c:UInt8} (h:qm c=true):c≠10∧c≠32∧c≠125∧c≠123:=by
 refine ⟨?_,?_,?_,?_⟩<;>(rintro rfl;exact absurd h (by decide))
theorem Lz {s:List UInt8} (h:gK s=true):NL s∧s.length≤12∧∃c r,s=c::r∧qm c=true:=by
 cases s with
 | nil=>cases h
 | cons c r=>
  simp only [gK,bK,fy] at h;obtain ⟨⟨⟨h1,h2⟩,_⟩,h4⟩:=h;have hc:qm c=true:=by simp [qm,h2]
  refine ⟨fun x hx=>?_,by simpa using h1,c,r,rfl,hc⟩;rcases gV.1 hx with rfl | hx
  ·exact (JU hc).1
  ·exact (JU (lH.1 h4 x hx)).1
theorem Xi {l:List UInt8} (h:∀c∈l,q8 c=true):NL l:=fun c hc=>(JU (show qm c=true by simp [qm,h c hc])).1
theorem aka {n:Int} (h0 : -9223372036854775808≤n) (h1:n≤9223372036854775807):NL (pC n):=by
 have e2:(10:Nat) ^ (19+1)=100000000000000000000:=by decide
 unfold pC;split
 ·exact uX.2 ⟨by decide,Xi (za 19 n.natAbs (by rw [e2];omega)).1⟩
 ·exact Xi (za 19 n.toNat (by rw [e2];omega)).1
theorem YP (v:Nat):py v≠10:=by
 by_cases h:v < 16
 ·have:((List.range 16).all fun v=>py v != 10)=true:=by decide
  simpa using Vo this v h
 ·have:py v=0:=by simp [py,List.getD,pR (show B6.length≤v from Nat.le_of_not_lt h)]
  rw [this];decide
theorem aoI (c:UInt8):NL (qc c)∧(qc c).length≤4:=by
 have ne:c.toNat≠10→c≠10:=fun h h'=>h (by rw [h'];rfl)
 unfold qc;split
 ·exact ⟨uX.2 ⟨by decide,uX.2 ⟨ne (by omega),yL⟩⟩,by simp⟩
 ·split
  ·exact ⟨cj,by simp⟩
  ·split
   ·exact ⟨uX.2 ⟨by decide,uX.2 ⟨by decide,uX.2 ⟨YP _,uX.2 ⟨YP _,yL⟩⟩⟩⟩,by simp⟩
   ·exact ⟨uX.2 ⟨ne (by omega),yL⟩,by simp⟩
theorem aoJ (s:List UInt8):NL (ye s)∧(ye s).length≤4 * s.length+2:=by
 have:NL (s.flatMap qc)∧(s.flatMap qc).length≤4 * s.length:=by
  induction s with
  | nil=>exact ⟨yL,by simp⟩
  | cons c r ih=>
   rw [HE];have:=aoI c;exact ⟨eO.2 ⟨this.1,ih.1⟩,by simp only [ew,gp];omega⟩
 unfold ye;exact ⟨uX.2 ⟨by decide,eO.2 ⟨this.1,cj⟩⟩,by simp only [gp,ew,jD];omega⟩
theorem apo (k:Int):NL (rB k):=by
 unfold rB;repeat' split
 all_goals exact cj
theorem W2 (k:Int):NL (tN k):=by
 unfold tN;repeat' split
 all_goals exact cj
theorem MQ:∀{t:TT},vX t→NL (gn t)∧(gn t).length≤110 * t.size
 | .lf k nm z tx,h=>by
  rcases h with ⟨rfl,h,rfl,rfl⟩ | ⟨rfl,rfl,rfl,h,h'⟩ | ⟨rfl,rfl,rfl,h⟩ | ⟨rfl,rfl,rfl,h⟩ | ⟨rfl,rfl,rfl,rfl⟩ | ⟨rfl,rfl,rfl,rfl⟩
  ·have:=Lz h;exact ⟨this.1,show nm.length≤110 by omega⟩
  ·have:=akb h h';exact ⟨aka h h',show (pC z).length≤110 by omega⟩
  ·rcases h with rfl | rfl<;>exact ⟨cj,by decide⟩
  ·have:=aoJ tx;exact ⟨this.1,show (ye tx).length≤110 by omega⟩
  ·exact ⟨cj,by decide⟩
  ·exact ⟨cj,by decide⟩
 | .un k a,h=>by
  have ih:=MQ h.2;have:=IB k;have:=W2 k;simp only [gn,TT.size];split<;>simp only [eO,ew,gp,jD]<;>exact ⟨by simp only [ih.1,this,lk,and_true];exact ⟨cj,cj⟩,by omega⟩
 | .bi k a b,h=>by
  have ih:=MQ h.2.1;have FO:=MQ h.2.2;have:=IB k;have:=ac8 k;have c:=W2 k;have s:=apo k;simp only [gn,TT.size];split<;>simp only [eO,ew,gp,jD]<;>refine ⟨?_,by omega⟩
  ·exact ⟨⟨⟨⟨cj,ih.1⟩,⟨cj,s⟩,cj⟩,FO.1⟩,cj⟩
  ·exact ⟨⟨⟨⟨⟨c,cj⟩,ih.1⟩,cj⟩,FO.1⟩,cj⟩
theorem FR {l:List (List UInt8)} (h:∀y∈l,NL y):NL (iJ l):=by
 cases l with
 | nil=>exact yL
 | cons x t=>
  refine eO.2 ⟨h x jT,fun c hc=>?_⟩;unfold kW at hc;obtain ⟨y,hy,hc⟩:=Nc.1 hc;exact eO.2 ⟨cj,h y (kE _ hy)⟩ c hc
theorem JV {l:List (List UInt8)} {N:Nat} (h:∀y∈l,y.length≤N):(iJ l).length≤(N+2) * l.length:=by
 have tl:∀t:List (List UInt8),(∀y∈t,y.length≤N)→(kW t).length≤(N+2) * t.length:=by
  intro t;induction t with
  | nil=>intro _;simp [kW]
  | cons y t ih=>
   intro h;have h1:=h y jT;have h2:=ih fun y hy=>h y (kE _ hy)
   simp only [kW,HE,ew,gp,jD,Nat.mul_add,uR] at h2 ⊢;omega
 cases l with
 | nil=>simp [iJ]
 | cons x t=>
  have h1:=h x jT;have h2:=tl t fun y hy=>h y (kE _ hy)
  simp only [iJ,ew,gp,Nat.mul_add,uR] at h2 ⊢;omega
theorem WG {k:Int} {x:List UInt8} (h:(k,x)∈iU):NL (mO k x):=by
 simp only [iU,gV,nB,nD,fJ] at h;rcases h with ⟨rfl,rfl⟩ | ⟨rfl,rfl⟩ | ⟨rfl,rfl⟩ | ⟨rfl,rfl⟩ | ⟨rfl,rfl⟩ | ⟨rfl,rfl⟩ | ⟨rfl,rfl⟩ | ⟨rfl,rfl⟩ | ⟨rfl,rfl⟩ | ⟨rfl,rfl⟩ | ⟨rfl,rfl⟩ | ⟨rfl,rfl⟩ | ⟨rfl,rfl⟩;all_goals exact cj
theorem apC {tm:List TM} (hT:jk tm) {t:TT} {i:Int} (h:t.at_ (tm.map bz) i):t.size≤3:=by
 have leaf:∀{a:TT} {x:Int} {j:Nat} {u:TM},a.at_ (tm.map bz) x→x=(j:Int)→tm[j]? = some u→xL u→a.size=1:=by
  intro a x j u ha hx hj hl;have g:(tm.map bz)[j]? = some (bz u):=by rw [bO,hj];rfl
  cases a with
  | lf=>rfl
  | un k a=>
   obtain ⟨j',x',e,hr,BV⟩:=ha;rw [show j'=j by omega,g] at hr;obtain ⟨y,hy⟩:=TT.yP BV;simp [bz,row] at hr;have:=hl.2.1;omega
  | bi k a b=>
   obtain ⟨j',x',y',e,hr,BV,_⟩:=ha;rw [show j'=j by omega,g] at hr;obtain ⟨y,hy⟩:=TT.yP BV;simp [bz,row] at hr;have:=hl.2.1;omega
 cases t with
 | lf=>simp [TT.size]
 | un k a=>
  obtain ⟨j,x,e,hr,ha⟩:=h;obtain ⟨y,hy⟩:=TT.yP ha;obtain ⟨u,hu,he⟩:∃u,tm[j]? = some u∧bz u=row k [] 0 [] x (-1):=by
   rw [bO] at hr;cases hj:tm[j]? with
   | none=>rw [hj] at hr;cases hr
   | some u=>rw [hj] at hr;exact ⟨u,rfl,uS hr⟩
  simp [bz,row] at he;rcases hT j u hu with hl | ⟨_,_,a',b',_,_,_,h2,_⟩
  ·have:=hl.2.1;omega
  ·omega
 | bi k a b=>
  obtain ⟨j,x,y,e,hr,ha,hb⟩:=h;obtain ⟨x',fG⟩:=TT.yP ha;obtain ⟨u,hu,he⟩:∃u,tm[j]? = some u∧bz u=row k [] 0 [] x y:=by
   rw [bO] at hr;cases hj:tm[j]? with
   | none=>rw [hj] at hr;cases hr
   | some u=>rw [hj] at hr;exact ⟨u,rfl,uS hr⟩
  simp [bz,row] at he;rcases hT j u hu with hl | ⟨_,_,a',b',u1,u2,h1,h2,_,_,_,h6,h7,h8,h9,_⟩
  ·have:=hl.2.1;omega
  ·have:=leaf ha (by omega) h6 h8;have:=leaf hb (by omega) h7 h9;simp [TT.size];omega
end
section
open Go Go.ax QQ
structure GP where
 nm:BB
 M:Nat
 ps:List PT
def jM (g:GP):Prop:=(g.nm=[112]∨g.nm=[113])∧kX g.M g.ps
def dN (g:GP):PR:=⟨g.nm,false,(List.range g.M).map bI,false,g.ps.map cP⟩
theorem G9 (M:Nat):da M=((List.range M).map bI).map fun s=>[D.str s]:=by simp [da]
theorem T0 {g:GP} (h:jM g):uw (dN g):=by
 have h2:=h.2.1;have h4:=h.2.2.1;refine ⟨?_,?_,?_,?_⟩
 ·rcases h.1 with e | e<;>(show g.nm.length≤20;rw [e];simp)
 ·show 1≤((List.range g.M).map bI).length;simp;omega
 ·show ((List.range g.M).map bI).length≤10;simp;omega
 ·intro s hs;simp only [dN,iz] at hs;obtain ⟨a,_,rfl⟩:=hs;simp [bI]
theorem Vb {g:GP} (h:jM g):g.nm∈lR:=by rcases h.1 with e | e<;>rw [e]<;>decide
theorem Va {g:GP} (h:jM g):g.nm.length≤20:=by rcases h.1 with e | e<;>rw [e]<;>simp
section
variable {m:Nat} {Q:V→List (List C)→Prop} {d:au ao}
def Nw (nm:BB) (K:ym.T→OR) (Q:V→List (List C)→Prop):Prop:=∀M ps d',kX M ps→cT d'→Wp (K ((nm,(false,da M),(false,ps.map cP),()),d',())) Q
theorem aqG (hm:60≤m) {nm:BB} {s:List BB} (hs:nP s) {b:Bool} (hd:cT d) {K:ym.T→OR} (h:Nw nm K Q):Wp (V6 (T m) nm b (ia s) d K) Q:=by
 obtain ⟨M,ps,d',h1,h2,e⟩:=aoC (nm:=nm) m (by omega) b hs hd;exact kB (x:=((nm,(false,da M),(false,ps.map cP),()),d',())) e rfl (h M ps d' h1 h2)
theorem aqu (hm:60≤m) {nm:BB} {s:List BB} (hs:nP s) {b:Bool} (hd:cT d) {K:ym.T→OR} (h:Nw nm K Q):Wp (c138 (T m) nm 2 b (ia s) d K) Q:=by
 obtain ⟨ps,d',h1,h2,e⟩:=NG (nm:=nm) m (by omega) b hs 2 (by omega) (by omega) hd;exact kB (x:=((nm,(false,da 2),(false,ps.map cP),()),d',())) e rfl (h 2 ps d' h1 h2)
theorem aeo (hm:640≤m) {nm:BB} (hn:nm∈lR) (nM:nm.length≤20) {s:List BB} (hs:nP s) {b:Bool} (hd:cT d) {K:ym.T→OR} (h:Nw nm K Q):Wp (c80 (T m) nm b (ia s) d K) Q:=by
 obtain ⟨m,rfl⟩:=cG hm;refine bH agm ?_;refine aqG (m:=m) (by omega) hs hd fun M ps d' hP dz=>?_
 refine T' (m:=m) (by omega) hP hn nM fun b' Ls z err hl aS=>ai (fun g=>aA (aC rfl (h M ps d' hP dz))) (fun g=>?_)
 exact aqu (m:=m) (by omega) hs dz fun M2 SD d2 zp fh=>aA (aC rfl (h M2 SD d2 zp fh))
def AH (i:Nat):List BB:=(List.range i).map fun k=>[112,46]++bI k
theorem aqf (i:Nat):AH (i+1)=AH i++[[112,46]++bI i]:=by simp [AH,Nh]
theorem abT:∀l:List BB,aW (ia l)=ia l
 | []=>rfl
 | a::t=>by
  have:=abT t;simp only [ia,fS,aW] at this ⊢;rw [this];rfl
theorem aqe {M:Nat} (h:M≤4):nP (AH M):=by
 have:M=0∨M=1∨M=2∨M=3∨M=4:=by omega
 rcases this with rfl | rfl | rfl | rfl | rfl<;>exact ⟨by decide,by decide⟩
theorem aa' (q:Nat) {M:Nat} (h4:M≤4) (rb pb:Bool) (gR:RR) {K:dh.T→OR} (h:∀b s,nP s→Wp (K ((b,ia s),())) Q):∀(c i:Nat),M - i < c→i≤M→
  Wp (Ke (T q) q c ([112],(rb,da M),(pb,gR),()) (ia (AH i)) (i:Int)) (J dh K Q)
 | 0,i,hc,_=>by omega
 | c+1,i,hc,hi=>by
  have hl:(ia (AH i)).length=i:=by simp [ia,AH]
  refine aD akP (ai (fun g1=>?_) (fun g1=>?_))
  ·have af:i < M:=by
    have g2:(i:Int) < ae (da M).length:=rU g1;rw [bJ,pJ] at g2;omega
   refine cz (by simp) (aD (iI (v:=(bI i,())) rfl (nT af) (by simp) rfl rfl) (cz (by simp [bI]) (aE (hC (by rw [hl];omega) (by omega)) ?_)));rw [wI i,dr];have:=aa' q h4 rb pb gR h c (i+1) (by omega) (by omega);rw [aqf,ia,eg] at this;exact this
  ·obtain rfl:i=M:=by
    have g2:¬ (i:Int) < ae (da M).length:=kF g1;rw [bJ,pJ] at g2;omega
   refine aE (by simp) ?_;rw [dr,abT];exact aA (aC rfl (h false _ (aqe h4)))
theorem aqS (hm:60≤m) {M:Nat} (h2:2≤M) (h4:M≤4) {rb pb:Bool} {gR:RR} {K:dh.T→OR} (h:∀b s,nP s→Wp (K ((b,ia s),())) Q):Wp (WA (T m) [112] rb (da M) pb gR K) Q:=by
 obtain ⟨m,rfl⟩:=cG hm;refine bH agn ?_;obtain ⟨r,hr⟩:=bm 1 m;have e0:Kd (T m) m m=Kd (T m) m (r+1):=by rw [←hr]
 rw [e0];refine aD akO (gM (bf (by show (0:Int) < ae (da M).length;rw [bJ,pJ];omega)) ?_);refine cz (by simp) (aD (iI (v:=(bI 0,())) (i:=0) rfl (nT (by omega)) (by simp) rfl rfl) (cz (by simp [bI]) (aE rfl ?_)));exact aa' m h4 rb pb gR h r 1 (by omega) (by omega)
def PsK (K:Tf.T→OR) (Q:V→List (List C)→Prop):Prop:=∀(gs:List GP) d',gs≠[]→gs.length≤2→(∀g∈gs,jM g)→cT d'→Wp (K ((false,(gs.map dN).map cZ),d',())) Q
theorem WE (nm:BB) (M:Nat) (ps:List PT):cZ (dN ⟨nm,M,ps⟩)=[.str nm,.sl (.im false) 1 (da M),.sl (.im false) 3 (ps.map cP)]:=by rw [G9];rfl
theorem aqH (hm:650≤m) (hd:cT d) {K:Tf.T→OR} (h:PsK K Q):Wp (c31 (T m) d K) Q:=by
 obtain ⟨m,rfl⟩:=cG hm;have h0:nP []:=⟨by simp,fun x hx=>by cases hx⟩
 refine bH agl ?_;refine aeo (m:=m) (s:=[]) (by omega) (by decide) (by simp) h0 hd fun M ps d1 hP cL=>?_
 have g1:jM ⟨[112],M,ps⟩:=⟨.inl rfl,hP⟩
 refine jS (m:=m) (n:=2) (by omega) (by omega) (by omega) cL fun j d2 hj fh=>ai (fun g=>?_) (fun g=>aA ?_)
 ·refine aqS (m:=m) (by omega) hP.1 hP.2.1 fun b s hs=>?_
  refine aeo (m:=m) (by omega) (by decide) (by simp) hs fh fun M2 SD d3 zp sy=>aA ?_
  have:=h [⟨[112],M,ps⟩,⟨[113],M2,SD⟩] d3 (by simp) (by simp) (by intro g hg;simp at hg;rcases hg with rfl | rfl;exact g1;exact ⟨.inr rfl,zp⟩) sy;simp only [fS,uN,WE] at this;exact aC rfl this
 ·have:=h [⟨[112],M,ps⟩] d2 (by simp) (by simp) (by intro g hg;simp at hg;subst hg;exact g1) fh;simp only [fS,uN,WE] at this;exact aC rfl this
theorem aqr (hm:1≤m) {l:List Int} (hl:l.length * 8≤140737488355328) {b:Bool} {K:rs4.T→OR} (h:∀d,cT d→Wp (K ((),d,())) Q):Wp (c28 (T m) b (l.map bF) K) Q:=by
 obtain ⟨m,rfl⟩:=cG hm;have hn:lS (l.map bF)=true:=by
  cases l with
  | nil=>rfl
  | cons a t=>simp [lS,tj,xF,bF]
 refine bH agi (aE (by simp only [fR,hn];simp;omega) (ai (fun g=>aA ?_) (fun g=>aA ?_)))
 ·exact aC rfl (h _ ⟨.im true,l,0,rfl,by omega,by omega⟩)
 ·exact aC rfl (h _ ⟨.own,l,0,rfl,by omega,by omega⟩)
def HW (K:nU.T→OR) (Q:V→List (List C)→Prop):Prop:=∀(gs:List GP) (ay:List PC),gs≠[]→gs.length≤2→(∀g∈gs,jM g)→ay≠[]→ay.length≤20→(∀p∈ay,gx p)→Wp (K (((false,(gs.map dN).map cZ),(true,[]),(false,ay.map dK),()),())) Q
theorem abQ:∀l:List PC,aW (l.map dK)=l.map dK
 | []=>rfl
 | a::t=>by simp only [fS,aW,abQ t];rfl
end
end
section
open Go Go.ax QQ
section
variable {m:Nat} {Q:V→List (List C)→Prop}
theorem MP {gs:List GP} (h:gs≠[]):gs.map dN≠[]:=by simpa using h
theorem MO {gs:List GP} (h:∀g∈gs,jM g):∀p∈gs.map dN,uw p:=by
 intro p hp;simp only [iz] at hp;obtain ⟨g,hg,rfl⟩:=hp;exact T0 (h g hg)
theorem WJ {g:GP} (h:jM g) {L:LR} (hL:GM g.nm L):((5:Int),L.nm)∈iU:=by
 obtain ⟨_,i,hi,e⟩:=hL;rw [e];rcases h.1 with e | e<;>rw [e]<;>(have:i=0∨i=1∨i=2∨i=3:=by omega)<;>rcases this with rfl | rfl | rfl | rfl<;>decide
theorem aoA (q:Nat) (hq:330≤q) {gs:List GP} (g0:gs≠[]) (g1:gs.length≤2) (g2:∀g∈gs,jM g) {K:nU.T→OR} (h:HW K Q) {c i:Nat} (hi:¬ i < gs.length) {a0:au cU} {d:au ao} (hd:cT d) {ay:List PC} (cr:ay.length≤19) (qk:∀p∈ay,gx p) :
  Wp (CH (T q) q (c+1) a0 d ((false,(gs.map dN).map cZ),(true,[]),ay.map dK,()) (i:Int)) (J nU K Q):=by
 refine aD Z4 (eH (cg (by show ¬ (i:Int) < ae ((gs.map dN).map cZ).length;rw [bJ];simp;omega)) ?_);refine aef (m:=q) (by omega) (MP g0) (by simp;omega) (MO g2) hd fun p d' hp dz=>?_
 have e:ay.map dK++[[D.str [],D.sl (.im true) 3 [],D.sl (.im true) 6 [],D.sl (.im true) 10 []]].set 0 [D.str p.nm,D.sl (.im p.pb) 3 (p.pm.map eJ),D.sl (.im p.tb) 6 (p.tm.map bz),D.sl (.im p.sb) 10 (p.ss.map cq)]=(ay++[p]).map dK:=by rw [eg];rfl
 dsimp only;rw [e];refine aE (hC (by simp;omega) (by omega)) (aE (zk (by simp)) (aE (by simp) (aA ?_)));rw [dr,abQ];exact aC rfl (h gs (ay++[p]) g0 g1 g2 (by simp) (by simp;omega) (by intro x hx;rw [dC] at hx;rcases hx with hx | hx;exact qk x hx;simp at hx;subst hx;exact hp))
theorem SC (q:Nat) (hq:630≤q) {gs:List GP} (g0:gs≠[]) (g1:gs.length≤2) (g2:∀g∈gs,jM g) {c i B:Nat} {g:GP} (hg:gs[i]? = some g) {a0:au cU} {lb:Bool} {Ls:List LR} (Py:Ls.length≤g.M) (zo:∀L∈Ls,GM g.nm L) {K:nU.T→OR}
  (h:∀(d:au ao) (ay:List PC),cT d→ay.length≤B+4→(∀p∈ay,gx p)→Wp (CH (T q) q c a0 d ((false,(gs.map dN).map cZ),(true,[]),ay.map dK,()) ((i+1:Nat):Int)) (J nU K Q)) :
  ∀(e k:Nat) (d:au ao) (ay:List PC),Ls.length - k < e→k≤Ls.length→cT d→ay.length≤B+k→(∀p∈ay,gx p)→B≤10→
   Wp (F6 (T q) q c e a0 d ((false,(gs.map dN).map cZ),(true,[]),ay.map dK,()) (i:Int) lb (Ls.map mN) (k:Int)) (J nU K Q)
 | 0,k,d,ay,he,_,_,_,_,_=>by omega
 | e+1,k,d,ay,he,hk,hd,cr,qk,hB=>by
  have mW:=g2 g (fm hg);have h4:=mW.2.2.1;have kP:i < gs.length:=(cB.1 hg).1;refine aD akN (ai (fun r1=>?_) (fun r1=>?_))
  ·have af:k < Ls.length:=bM r1;refine aM Av (a:=dN g) rfl (by rw [bO,hg];rfl) ?_;refine aM aco rfl (gE af) ?_;have EW:=T0 mW;refine aeh (m:=q) (L:=Ls[k]) (by omega) (MP g0) (by simp;omega) (MO g2) EW.1 (by show k < ((List.range g.M).map bI).length;simp;omega) EW.2.2.2 (gE af) (zo _ (bL af)).1 (WJ mW (zo _ (bL af))) hd fun p d' hp dz=>?_
   refine aE (hC (by simp;omega) (by omega)) ?_;rw [wI k];have:=SC q hq g0 g1 g2 hg (lb:=lb) Py zo h e (k+1) d' (ay++[p]) (by omega) (by omega) dz (by simp;omega) (by intro x hx;rw [dC] at hx;rcases hx with hx | hx;exact qk x hx;simp at hx;subst hx;exact hp) hB;rw [eg] at this;exact this
  ·rw [wI i];exact h d ay hd (by omega) qk
theorem ab1 (q:Nat) (hq:630≤q) {gs:List GP} (g0:gs≠[]) (g1:gs.length≤2) (g2:∀g∈gs,jM g) {a0:au cU} {K:nU.T→OR} (h:HW K Q) :
  ∀(c i:Nat) (d:au ao) (ay:List PC),gs.length - i < c→i≤gs.length→cT d→ay.length≤4 * i→(∀p∈ay,gx p)→
   Wp (CH (T q) q c a0 d ((false,(gs.map dN).map cZ),(true,[]),ay.map dK,()) (i:Int)) (J nU K Q)
 | 0,i,d,ay,hc,_,_,_,_=>by omega
 | c+1,i,d,ay,hc,hi,hd,cr,qk=>by
  by_cases af:i < gs.length
  ·have hg:gs[i]? = some gs[i]:=gE af;have mW:=g2 _ (bL af);have h4:=mW.2.2.1;refine aD Z4 (gM (bf (by show (i:Int) < ae ((gs.map dN).map cZ).length;rw [bJ];simp;omega)) ?_);refine aM Av (a:=dN gs[i]) rfl (by rw [bO,hg];rfl) ?_;show Wp (Bi _ gs[i].nm false (((List.range gs[i].M).map bI).map fun s=>[D.str s]) false (gs[i].ps.map cP) _) _;rw [←G9];refine T' (m:=q) (by omega) mW.2 (Vb mW) (Va mW) fun lb Ls z err hl aS=>?_
   exact SC q hq g0 g1 g2 (B:=4 * i) hg (lb:=lb) hl aS (fun d' Sr dz ajN QB=>ab1 q hq g0 g1 g2 h c (i+1) d' Sr (by omega) (by omega) dz (by omega) QB) q 0 d ay (by omega) (by omega) hd (by omega) qk (by omega)
  ·exact aoA q (by omega) g0 g1 g2 h af hd (by omega) qk
theorem aoz (q:Nat) (hq:630≤q) {gs:List GP} (g0:gs≠[]) (g1:gs.length≤2) (g2:∀g∈gs,jM g) {c i:Nat} {g:GP} (hg:gs[i]? = some g) {a0:au cU} {lb:Bool} {Ls:List LR} (Py:Ls.length≤g.M) (zo:∀L∈Ls,GM g.nm L) {K:nU.T→OR} {d:au ao} (hd:cT d)
  (h:∀(d:au ao) (ay:List PC),cT d→ay.length≤4→(∀p∈ay,gx p)→Wp (CH (T q) q c a0 d ((false,(gs.map dN).map cZ),(true,[]),ay.map dK,()) ((i+1:Nat):Int)) (J nU K Q))
  (h':Wp (F4 (T q) q c a0 d ((false,(gs.map dN).map cZ),(true,[]),(true,[]),()) ((i+1:Nat):Int)) (J nU K Q)) :
  Wp (F5 (T q) q c q a0 d ((false,(gs.map dN).map cZ),(true,[]),(true,[]),()) (i:Int) lb (Ls.map mN) 0) (J nU K Q):=by
 obtain ⟨r,hr⟩:=bm 1 q;have e0:F5 (T q) q c q=F5 (T q) q c (r+1):=by rw [←hr]
 have mW:=g2 g (fm hg);have h4:=mW.2.2.1;have kP:i < gs.length:=(cB.1 hg).1;rw [e0];refine aD akM (ai (fun r1=>?_) (fun r1=>?_))
 ·have af:0 < Ls.length:=bM r1;refine aM Av (a:=dN g) rfl (by rw [bO,hg];rfl) ?_;refine aM aco (i:=0) rfl (gE af) ?_;have EW:=T0 mW;refine aeh (m:=q) (L:=Ls[0]) (i:=0) (by omega) (MP g0) (by simp;omega) (MO g2) EW.1 (by show 0 < ((List.range g.M).map bI).length;simp;omega) EW.2.2.2 (gE af) (zo _ (bL af)).1 (WJ mW (zo _ (bL af))) hd fun p d' hp dz=>aE rfl ?_
  exact SC q hq g0 g1 g2 (B:=0) hg (lb:=lb) Py zo (fun d ay hd cr qk=>h d ay hd (by omega) qk) r 1 d' [p] (by omega) (by omega) dz (by simp) (by intro x hx;simp at hx;subst hx;exact hp) (by omega)
 ·rw [wI i];exact h'
theorem ab0 (q:Nat) (hq:630≤q) {gs:List GP} (g0:gs≠[]) (g1:gs.length≤2) (g2:∀g∈gs,jM g) {a0:au cU} {K:nU.T→OR} (h:HW K Q) :
  ∀(c i:Nat) (d:au ao),c≤q→gs.length - i < c→i≤gs.length→cT d→
   Wp (F4 (T q) q c a0 d ((false,(gs.map dN).map cZ),(true,[]),(true,[]),()) (i:Int)) (J nU K Q)
 | 0,i,d,_,hc,_,_=>by omega
 | c+1,i,d,E5,hc,hi,hd=>by
  by_cases af:i < gs.length
  ·have hg:gs[i]? = some gs[i]:=gE af;have mW:=g2 _ (bL af);have h4:=mW.2.2.1;refine aD Z3 (gM (bf (by show (i:Int) < ae ((gs.map dN).map cZ).length;rw [bJ];simp;omega)) ?_);refine aM Av (a:=dN gs[i]) rfl (by rw [bO,hg];rfl) ?_;show Wp (Bi _ gs[i].nm false (((List.range gs[i].M).map bI).map fun s=>[D.str s]) false (gs[i].ps.map cP) _) _;rw [←G9];refine T' (m:=q) (by omega) mW.2 (Vb mW) (Va mW) fun lb Ls z err hl aS=>?_
   exact aoz q hq g0 g1 g2 hg (lb:=lb) hl aS hd (fun d' Sr dz ajN QB=>ab1 q hq g0 g1 g2 h c (i+1) d' Sr (by omega) (by omega) dz (by omega) QB) (ab0 q hq g0 g1 g2 h c (i+1) d (by omega) (by omega) (by omega) hd)
  ·refine aD Z3 (eH (cg (by show ¬ (i:Int) < ae ((gs.map dN).map cZ).length;rw [bJ];simp;omega)) ?_);refine aef (m:=q) (by omega) (MP g0) (by simp;omega) (MO g2) hd fun p d' hp dz=>aE rfl (aA ?_)
   exact aC rfl (h gs [p] g0 g1 g2 (by simp) (by simp) (by intro x hx;simp at hx;subst hx;exact hp))
theorem aqF (hm:660≤m) {l:List Int} (hl:l.length * 8≤140737488355328) {b:Bool} {K:nU.T→OR} (h:HW K Q):Wp (V0 (T m) b (l.map bF) K) Q:=by
 obtain ⟨m,rfl⟩:=cG hm;refine bH agk ?_;refine aqr (m:=m) (by omega) hl fun d hd=>?_
 refine aqH (m:=m) (by omega) hd fun gs d' g0 g1 g2 dz=>?_
 exact ab0 m (by omega) g0 g1 g2 h m 0 d' (by omega) (by omega) (by omega) dz
end
end
section
open Go Go.ax QQ
def kO (k:Int):Bool:=k==1||k==2||k==4||k==7||k==8||k==9
structure uV (s:PS):Prop where
 k0:0≤s.kd∧s.kd≤10
 go:s.kd≠3→s.kd≠5→s.ws=[]
 ng:kO s.kd=false→s.nx = -1
 i2:s.kd=3→s.ws.length=2
 h1:s.kd=5→1≤s.ws.length∧∀w∈s.ws,(w.lb=[]∨gK w.lb=true)∧(w.nm=[]∨gK w.nm=true)
 n1:(s.kd=1∨s.kd=9∨s.kd=4∨s.kd=5∨s.kd=8)→gK s.nm=true
 n2:(s.kd=4∨s.kd=5∨s.kd=8)→gK s.pr=true
 n3:(s.kd=4∨s.kd=8)→gK s.lb=true
 n4:(s.kd=6∨s.kd=7)→gK s.pc=true
 n5:s.kd=8→∀c∈s.cs,gK c.ro=true∧gK c.pc=true
def bq (s:PS):List Int:=if kO s.kd then [s.nx] else s.ws.map WR.nx
section
variable {m:Nat} {Q:V→List (List C)→Prop}
theorem ie (hm:20≤m) {s:BB} {K:bj.T→OR} (h:Wp (K (gK s,())) Q):Wp (fB (T m) s K) Q:=
 kB (x:=(gK s,())) (Go.Proofs.YtfmpdgeiodnnfaaGreatDoor.vP m hm s) rfl h
theorem abL (q:Nat) (b:Bool) (l:List BB) (hl:l.length≤1000000) (s:BB) {K:iL.T→OR} (h1:Wp (K (-1,())) Q) (h2:∀i:Nat,i < l.length→Wp (K ((i:Int),())) Q):∀(c i:Nat),l.length - i < c→i≤l.length→
  Wp (J4 (T q) q c b (l.map aL) s (ae (l.map aL).length) (i:Int)) (J iL K Q)
 | 0,i,hc,_=>by omega
 | c+1,i,hc,hi=>by
  refine aD akt (ai (fun g1=>?_) (fun g1=>aA (aC rfl h1)));have af:i < l.length:=bM g1;refine aM rq rfl (gE af) (ai (fun g2=>aA (aC rfl (h2 i af))) (fun g2=>?_));rw [wI i];exact abL q b l hl s h1 h2 c (i+1) (by omega) (by omega)
theorem aei {N:Nat} (hm:N+5≤m) {b:Bool} {l:List BB} (hl:l.length≤N) (hN:N≤1000000) {s:BB} {K:iL.T→OR} (h1:Wp (K (-1,())) Q) (h2:∀i:Nat,i < l.length→Wp (K ((i:Int),())) Q):Wp (c152 (T m) b (l.map aL) s K) Q:=by
 obtain ⟨m,rfl⟩:=cG hm;exact bH af1 (abL m b l (by omega) s h1 h2 m 0 (by omega) (by omega))
theorem Uc {N:Nat} (hm:N+10≤m) {b:Bool} {l:List BB} (hl:l.length≤N) (hN:N≤1000000) {s:BB} {K:bj.T→OR} (h:∀b,Wp (K (b,())) Q):Wp (yT (T m) b (l.map aL) s K) Q:=by
 obtain ⟨m,rfl⟩:=cG hm;refine bH afX ?_;exact aei (m:=m) (N:=N) (by omega) hl hN (aA (aC rfl (h _))) (fun i hi=>aA (aC rfl (h _)))
theorem abu (q N:Nat) (hq:N+10≤q) (b:Bool) (l:List BB) (hl:l.length≤N) (hN:N≤1000000) {K:bj.T→OR} (h:∀b,Wp (K (b,())) Q):∀(c i:Nat),l.length - i < c→i≤l.length→
  Wp (FZ (T q) q c b (l.map aL) (ae (l.map aL).length) (i:Int)) (J bj K Q)
 | 0,i,hc,_=>by omega
 | c+1,i,hc,hi=>by
  refine aD aks (ai (fun g1=>?_) (fun g1=>aA (aC rfl (h true))));have af:i < l.length:=bM g1;have eK:Wp (FZ (T q) q c b (l.map aL) (ae (l.map aL).length) (ak ((i:Int)+1))) (J bj K Q):=by
   rw [wI i];exact abu q N hq b l hl hN h c (i+1) (by omega) (by omega)
  refine aM rq rfl (gE af) ?_;refine aei (m:=q) (N:=N) (by omega) hl hN (ai (fun _=>aA (aC rfl (h false))) (fun _=>eK)) (fun j hj=>ai (fun _=>aA (aC rfl (h false))) (fun _=>eK))
theorem M0 {N:Nat} (hm:N+20≤m) {b:Bool} {l:List BB} (hl:l.length≤N) (hN:N≤1000000) {K:bj.T→OR} (h:∀b,Wp (K (b,())) Q):Wp (u3 (T m) b (l.map aL) K) Q:=by
 obtain ⟨m,rfl⟩:=cG hm;exact bH af0 (abu m N (by omega) b l hl hN h m 0 (by omega) (by omega))
def okW (w:WR):Prop:=(w.lb=[]∨gK w.lb=true)∧(w.nm=[]∨gK w.nm=true)
theorem aey (q:Nat) (hq:160≤q) (wb:Bool) (ws:List WR) (hl:ws.length≤100) {K:bj.T→OR} (h:∀b,(b=true→∀w∈ws,okW w)→Wp (K (b,())) Q) {a1:Bool}:∀(c i:Nat) (o:List BB),ws.length - i < c→i≤ws.length→o.length=i→(∀(j:Nat) w,j < i→ws[j]? = some w→okW w)→
  Wp (ly (T q) q c (o.map aL) wb (ws.map cW) (ae (ws.map cW).length) (i:Int)) (J bj K Q)
 | 0,i,o,hc,_,_,_=>by omega
 | c+1,i,o,hc,hi,ho,aS=>by
  have fl:Wp (rF) (J bj K Q):=aA (aC rfl (h false (fun h0=>by cases h0)));refine aD am5 (ai (fun g1=>?_) (fun g1=>?_))
  ·have af:i < ws.length:=bM g1;have hg:ws[i]? = some ws[i]:=gE af;have eK:okW ws[i]→Wp (gd ((o.map aL).length==(o.map aL).length&&true&&decide (((o.map aL).length+1) * 16≤140737488355328)) (ly (T q) q c (o.map aL++whole ([[D.str []]].set 0 [D.str ws[i].lb])) wb (ws.map cW) (ae (ws.map cW).length) (ak ((i:Int)+1)))) (J bj K Q):=by
    intro hw;refine aE (hC (by simp;omega) (by omega)) ?_;rw [wI i,dr]
    have := aey q hq wb ws hl h (a1 := a1) c (i + 1) (o ++ [ws[i].lb]) (by omega) (by omega) (by simp; omega) (by
      intro j w hj pA
      by_cases Fi : j < i
      · exact aS j w Fi pA
      · rw [show j = i by omega, hg] at pA; cases pA; exact hw)
    rw [eg] at this;exact this
   refine aM Au rfl hg ?_;dsimp only;have e1:∀{x:BB},(x==[])=true→x=[]:=fun h=>by simpa using h
   have e2:∀{x:BB},(!x==[])=false→x=[]:=fun h=>by simpa using h
   have e3:∀{b:Bool},(!b)=false→b=true:=fun h=>by simpa using h
   refine ai (fun g2=>ai (fun _=>fl) (fun g3=>ai (fun g4=>?_) (fun g4=>ai (fun g5=>?_) (fun g5=>eK ⟨.inl (e1 g2),.inl (e2 g5)⟩)))) (fun g2=>ai (fun g4=>?_) (fun g4=>ai (fun g5=>?_) (fun g5=>eK ⟨.inl (e2 g4),.inl (e2 g5)⟩)))
   ·refine ie (m:=q) (by omega) (ai (fun _=>fl) (fun g5=>ai (fun g6=>ie (m:=q) (by omega) (ai (fun _=>fl) (fun g7=>eK ⟨.inr (e3 g5),.inr (e3 g7)⟩))) (fun g6=>eK ⟨.inr (e3 g5),.inl (e2 g6)⟩)))
   ·exact ie (m:=q) (by omega) (ai (fun _=>fl) (fun g7=>eK ⟨.inl (e1 g2),.inr (e3 g7)⟩))
   ·refine ie (m:=q) (by omega) (ai (fun _=>fl) (fun g5=>ai (fun g6=>ie (m:=q) (by omega) (ai (fun _=>fl) (fun g7=>eK ⟨.inr (e3 g5),.inr (e3 g7)⟩))) (fun g6=>eK ⟨.inr (e3 g5),.inl (e2 g6)⟩)))
   ·exact ie (m:=q) (by omega) (ai (fun _=>fl) (fun g7=>eK ⟨.inl (e2 g4),.inr (e3 g7)⟩))
  ·have eP:i=ws.length:=by
    have g2:¬ (i:Int) < ae (ws.map cW).length:=kF g1;rw [bJ,cf] at g2;omega
   refine aE (by simp) ?_;rw [dr,qv];refine M0 (m:=q) (N:=100) (by omega) (by omega) (by omega) fun b=>aA (aC rfl (h b (fun _ w hw=>?_)))
   obtain ⟨j,hj,Qm⟩:=DX hw;exact aS j w (by omega) (by rw [gE hj,Qm])
end
end
section
open Go Go.ax QQ
section
variable {m:Nat} {Q:V→List (List C)→Prop}
theorem aeu (hm:170≤m) {kd:Int} {x1 x2 x3 x4:BB} {x5:Int} {x6:Bool} {x7:RR} {x8:Bool} {x9:RR} {wb:Bool} {ws:List WR} (hl:ws.length≤100) {ef:Int} {K:bj.T→OR}
  (h:∀b,(b=true→(kd=3→ws.length=2)∧(kd≠3→1≤ws.length∧∀w∈ws,okW w))→Wp (K (b,())) Q):Wp (c154 (T m) kd x1 x2 x3 x4 x5 x6 x7 x8 x9 wb (ws.map cW) ef K) Q:=by
 obtain ⟨m,rfl⟩:=cG hm;have fl:Wp (rF) (J bj K Q):=aA (aC rfl (h false (fun h0=>by cases h0)));refine bH ahs (ai (fun g1=>ai (fun g2=>?_) (fun _=>fl)) (fun g1=>?_))
 ·have hk:kd=3:=by simpa using g1
  have h2:ws.length=2:=by
   have g3:(ae (ws.map cW).length==2)=true:=g2;rw [bJ,cf] at g3;have:=eV.1 g3;omega
  have g0:(ws.map cW)[0]? = some (cW (ws[0]'(by omega))):=by rw [bO,gE (by omega)];rfl
  have pv:(ws.map cW)[1]? = some (cW (ws[1]'(by omega))):=by rw [bO,gE (by omega)];rfl
  have l8:∀b,Wp (some (.one (bC b),[])) (J bj K Q):=fun b=>aA (aC rfl (h b (fun _=>⟨fun _=>h2,fun h0=>absurd hk h0⟩)))
  refine aD (yf (r:=cW (ws[0]'(by omega))) (v:=((ws[0]'(by omega)).lb,())) g0 (by simp [cW]) rfl rfl) (ai (fun _=>?_) (fun _=>fl));refine aD (yf (r:=cW (ws[0]'(by omega))) (v:=((ws[0]'(by omega)).nm,())) g0 (by simp [cW]) rfl rfl) (ai (fun _=>?_) (fun _=>fl));refine aD (yf (r:=cW (ws[1]'(by omega))) (v:=((ws[1]'(by omega)).lb,())) pv (by simp [cW]) rfl rfl) (ai (fun _=>?_) (fun _=>fl));exact aD (yf (r:=cW (ws[1]'(by omega))) (v:=((ws[1]'(by omega)).nm,())) pv (by simp [cW]) rfl rfl) (l8 _)
 ·have hk:kd≠3:=by simpa using g1
  refine ai (fun _=>fl) (fun g2=>ai (fun _=>fl) (fun g3=>?_));have h1:1≤ws.length:=by
   have g4:¬ ae (ws.map cW).length < 1:=kF g2;rw [bJ,cf] at g4;omega
  obtain ⟨r,hr⟩:=bm 1 m;have e1:Lp (T m) m m=Lp (T m) m (r+1):=by rw [←hr]
  have e0:Lo (T m) m m=Lo (T m) m (r+1):=by rw [←hr]
  rw [e1];refine aD am6 ?_;rw [e0];refine aD am4 (gM (bf (by show (0:Int) < ae (ws.map cW).length;rw [bJ,cf];omega)) ?_);have eK:okW (ws[0]'(by omega))→Wp (gd (true&&true&&true) (ly (T m) m r [[.str (ws[0]'(by omega)).lb]] wb (ws.map cW) (ae (ws.map cW).length) (ak (0+1)))) (J bj K Q):=by
   intro hw;refine aE rfl ?_
   exact aey m (by omega) wb ws hl (fun b hb => h b (fun h0 => ⟨fun h0' => absurd h0' hk, fun _ => ⟨h1, hb h0⟩⟩)) (a1 := true) r 1 [(ws[0]'(by omega)).lb] (by omega) (by omega) rfl (by
     intro j w hj pA
     rw [show j = 0 by omega, gE (by omega)] at pA; cases pA; exact hw)
  refine aM Au (i:=0) rfl (gE (show 0 < ws.length by omega)) ?_;dsimp only;have e1:∀{x:BB},(x==[])=true→x=[]:=fun h=>by simpa using h
  have e2:∀{x:BB},(!x==[])=false→x=[]:=fun h=>by simpa using h
  have e3:∀{b:Bool},(!b)=false→b=true:=fun h=>by simpa using h
  refine ai (fun g2=>ai (fun _=>fl) (fun g3=>ai (fun g4=>?_) (fun g4=>ai (fun g5=>?_) (fun g5=>eK ⟨.inl (e1 g2),.inl (e2 g5)⟩)))) (fun g2=>ai (fun g4=>?_) (fun g4=>ai (fun g5=>?_) (fun g5=>eK ⟨.inl (e2 g4),.inl (e2 g5)⟩)))
  ·refine ie (m:=m) (by omega) (ai (fun _=>fl) (fun g5=>ai (fun g6=>ie (m:=m) (by omega) (ai (fun _=>fl) (fun g7=>eK ⟨.inr (e3 g5),.inr (e3 g7)⟩))) (fun g6=>eK ⟨.inr (e3 g5),.inl (e2 g6)⟩)))
  ·exact ie (m:=m) (by omega) (ai (fun _=>fl) (fun g7=>eK ⟨.inl (e1 g2),.inr (e3 g7)⟩))
  ·refine ie (m:=m) (by omega) (ai (fun _=>fl) (fun g5=>ai (fun g6=>ie (m:=m) (by omega) (ai (fun _=>fl) (fun g7=>eK ⟨.inr (e3 g5),.inr (e3 g7)⟩))) (fun g6=>eK ⟨.inr (e3 g5),.inl (e2 g6)⟩)))
  ·exact ie (m:=m) (by omega) (ai (fun _=>fl) (fun g7=>eK ⟨.inl (e2 g4),.inr (e3 g7)⟩))
theorem aee (hm:1≤m) {k:Int} {K:bj.T→OR} (h:Wp (K (kO k,())) Q):Wp (N2 (T m) k K) Q:=by
 obtain ⟨m,rfl⟩:=cG hm;refine bH ahi ?_;have l8:∀b,kO k=b→Wp (some (.one (bC b),[])) (J bj K Q):=fun b hb=>aA (aC rfl (by rw [←hb];exact h))
 refine ai (fun g1=>l8 true (by simp only [kO,g1];rfl)) (fun g1=>?_);refine ai (fun g2=>l8 true (by simp only [kO,g1,g2];rfl)) (fun g2=>?_);refine ai (fun g3=>l8 true (by simp only [kO,g1,g2,g3];rfl)) (fun g3=>?_);refine ai (fun g4=>l8 true (by simp only [kO,g1,g2,g3,g4];rfl)) (fun g4=>?_);refine ai (fun g5=>l8 true (by simp only [kO,g1,g2,g3,g4,g5];rfl)) (fun g5=>?_);exact ai (fun g6=>l8 true (by simp only [kO,g1,g2,g3,g4,g5,g6];rfl)) (fun g6=>l8 false (by simp only [kO,g1,g2,g3,g4,g5,g6];rfl))
theorem aqK (hm:5≤m) {kd:Int} {x1 x2 x3 x4:BB} {x5:Int} {x6:Bool} {x7:RR} {x8:Bool} {x9:RR} {wb:Bool} {ws:RR} {nx:Int} {K:Ha.T→OR}
  (h:∀y1 y2 y3 y4 y5 y6 y8 b eZ LI,(kd≠3→kd≠5→eZ=ws)→(kO kd=false→LI=nx)→Wp (K ((kd,y1,y2,y3,y4,y5,y6,y8,(b,eZ),LI,()),())) Q):Wp (V9 (T m) kd x1 x2 x3 x4 x5 x6 x7 x8 x9 wb ws nx K) Q:=by
 obtain ⟨m,rfl⟩:=bm 2 m;refine bH ahd ?_;have rest:∀(y1 y2 y3 y4:BB) (y5:Int) (y6 y8:Bool×RR) (b:Bool) (eZ:RR) (a1:au ev),(kd≠3→kd≠5→eZ=ws)→Wp (re (T (m+1)) (m+1) (m+1) (kd,y1,y2,y3,y4,y5,y6,y8,(b,eZ),nx,()) a1) (J Ha K Q):=by
  intro y1 y2 y3 y4 y5 y6 y8 b eZ a1 hw;refine aD amn (aee (m:=m+1) (by omega) (ai (fun g=>aA ?_) (fun g=>aA ?_)))
  ·exact aC rfl (h y1 y2 y3 y4 y5 y6 y8 b eZ (-1) hw (fun h0=>by have g':kO kd=true:=g;rw [h0] at g';cases g'))
  ·exact aC rfl (h y1 y2 y3 y4 y5 y6 y8 b eZ nx hw (fun _=>rfl))
 have e:∀{z:Int},(kd==z)=true→kd=z:=fun h=>by simpa using h
 exact ai (fun _=>rest _ _ _ _ _ _ _ _ _ _ (fun _ _=>rfl)) (fun _=>ai (fun _=>rest _ _ _ _ _ _ _ _ _ _ (fun _ _=>rfl)) (fun _=>ai (fun g=>rest _ _ _ _ _ _ _ _ _ _ (fun h0 _=>absurd (e g) h0)) (fun _=>ai (fun _=>rest _ _ _ _ _ _ _ _ _ _ (fun _ _=>rfl)) (fun _=>ai (fun g=>rest _ _ _ _ _ _ _ _ _ _ (fun _ h0=>absurd (e g) h0)) (fun _=>ai (fun _=>rest _ _ _ _ _ _ _ _ _ _ (fun _ _=>rfl)) (fun _=>ai (fun _=>rest _ _ _ _ _ _ _ _ _ _ (fun _ _=>rfl)) (fun _=>ai (fun _=>rest _ _ _ _ _ _ _ _ _ _ (fun _ _=>rfl)) (fun _=>ai (fun _=>rest _ _ _ _ _ _ _ _ _ _ (fun _ _=>rfl)) (fun _=>rest _ _ _ _ _ _ _ _ _ _ (fun _ _=>rfl))))))))))
theorem WL (q:Nat) (hq:100≤q) (cb:Bool) (cs:List CR) (hl:cs.length≤100) {K:bj.T→OR} (h:∀b,(b=true→∀c∈cs,gK c.ro=true∧gK c.pc=true)→Wp (K (b,())) Q):∀(c i:Nat),cs.length - i < c→i≤cs.length→(∀(j:Nat) x,j < i→cs[j]? = some x→gK x.ro=true∧gK x.pc=true)→
  Wp (K4 (T q) q c cb (cs.map eC) (ae (cs.map eC).length) (i:Int)) (J bj K Q)
 | 0,i,hc,_,_=>by omega
 | c+1,i,hc,hi,aS=>by
  have fl:Wp (rF) (J bj K Q):=aA (aC rfl (h false (fun h0=>by cases h0)));have e3:∀{b:Bool},(!b)=false→b=true:=fun h=>by simpa using h
  refine aD amu (ai (fun g1=>?_) (fun g1=>?_))
  ·have af:i < cs.length:=bM g1;have hg:cs[i]? = some cs[i]:=gE af;refine aM (enc:=eC) (f:=fun c=>(c.ro,c.pc,(c.gt,c.ag.map bF),())) (fun a=>⟨by simp [eC],rfl⟩) rfl hg ?_;refine ie (m:=q) (by omega) (ai (fun _=>fl) (fun g2=>ie (m:=q) (by omega) (ai (fun _=>fl) (fun g3=>ai (fun _=>fl) (fun _=>?_)))));rw [wI i];refine WL q hq cb cs hl h c (i+1) (by omega) (by omega) ?_;intro j w hj pA;by_cases Fi:j < i
   ·exact aS j w Fi pA
   ·rw [show j=i by omega,hg] at pA;cases pA;exact ⟨e3 g2,e3 g3⟩
  ·have eP:i=cs.length:=by
    have g2:¬ (i:Int) < ae (cs.map eC).length:=kF g1;rw [bJ,cf] at g2;omega
   refine aA (aC rfl (h true (fun _ w hw=>?_)));obtain ⟨j,hj,Qm⟩:=DX hw;exact aS j w (by omega) (by rw [gE hj,Qm])
end
end
section
open Go Go.ax QQ
section
variable {m:Nat} {Q:V→List (List C)→Prop}
def tS (s:PS):au ev:=(s.kd,s.nm,s.pr,s.lb,s.pc,s.tm,(s.gt,s.ag.map bF),(s.ct,s.cs.map eC),(s.wb,s.ws.map cW),s.nx,())
structure Nr (s:PS):Prop where
 k0:0≤s.kd∧s.kd≤10
 go:s.kd≠3→s.kd≠5→s.ws=[]
 ng:kO s.kd=false→s.nx = -1
theorem Nr.mk' {s:PS} (h:Nr s) (i2:s.kd=3→s.ws.length=2) (h1:s.kd=5→1≤s.ws.length∧∀w∈s.ws,okW w) (n1:(s.kd=1∨s.kd=9∨s.kd=4∨s.kd=5∨s.kd=8)→gK s.nm=true)
  (n2:(s.kd=4∨s.kd=5∨s.kd=8)→gK s.pr=true) (n3:(s.kd=4∨s.kd=8)→gK s.lb=true) (n4:(s.kd=6∨s.kd=7)→gK s.pc=true) (n5:s.kd=8→∀c∈s.cs,gK c.ro=true∧gK c.pc=true):uV s:=
 ⟨h.k0,h.go,h.ng,i2,h1,n1,n2,n3,n4,n5⟩
theorem anN (q:Nat) (hq:180≤q) {s:PS} (ho:mA s) (h0:Nr s) (a1:au ev) {K:bj.T→OR} (h:∀b,(b=true→uV s)→Wp (K (b,())) Q) :
  Wp (Gl (T q) q q (tS s) a1) (J bj K Q):=by
 obtain ⟨r,hr⟩:=bm 1 q;have e2:Gl (T q) q q=Gl (T q) q (r+1):=by rw [←hr]
 have e1:K5 (T q) q q=K5 (T q) q (r+1):=by rw [←hr]
 have fl:Wp (rF) (J bj K Q):=aA (aC rfl (h false (fun h0=>by cases h0)));have l8:∀b,(b=true→uV s)→Wp (some (.one (bC b),[])) (J bj K Q):=fun b hb=>aA (aC rfl (h b hb))
 have eq:∀{z:Int},(s.kd==z)=true→s.kd=z:=fun h=>by simpa using h
 have e3:∀{b:Bool},(!b)=false→b=true:=fun h=>by simpa using h
 have ne:∀{z:Int},(s.kd==z)=false→s.kd≠z:=fun h=>by simpa using h
 rw [e2];refine aD amw ?_;refine ai (fun g=>ie (m:=q) (by omega) (l8 _ fun hb=>?_)) (fun g1=>?_)
 ·have:=eq g;exact h0.mk' (fun _=>by omega) (fun _=>by omega) (fun _=>hb) (fun _=>by omega) (fun _=>by omega) (fun _=>by omega) (fun _=>by omega)
 refine ai (fun g=>ie (m:=q) (by omega) (l8 _ fun hb=>?_)) (fun g2=>?_)
 ·have:=eq g;exact h0.mk' (fun _=>by omega) (fun _=>by omega) (fun _=>hb) (fun _=>by omega) (fun _=>by omega) (fun _=>by omega) (fun _=>by omega)
 refine ai (fun g=>aeu (m:=q) (by omega) ho.2.2.2 fun b hb=>l8 _ fun vo=>?_) (fun g3=>?_)
 ·have:=eq g;exact h0.mk' (hb vo).1 (fun _=>by omega) (fun _=>by omega) (fun _=>by omega) (fun _=>by omega) (fun _=>by omega) (fun _=>by omega)
 refine ai (fun g=>ie (m:=q) (by omega) (ai (fun b1=>ie (m:=q) (by omega) (ai (fun b2=>ie (m:=q) (by omega) (l8 _ fun b3=>?_)) (fun _=>fl))) (fun _=>fl))) (fun g4=>?_)
 ·have:=eq g;exact h0.mk' (fun _=>by omega) (fun _=>by omega) (fun _=>b1) (fun _=>b2) (fun _=>b3) (fun _=>by omega) (fun _=>by omega)
 refine ai (fun g=>ie (m:=q) (by omega) (ai (fun b1=>ie (m:=q) (by omega) (ai (fun b2=>aeu (m:=q) (by omega) ho.2.2.2 fun b hb=>l8 _ fun vo=>?_) (fun _=>fl))) (fun _=>fl))) (fun g5=>?_)
 ·have:=eq g;exact h0.mk' (fun _=>by omega) (fun _=>(hb vo).2 (by show s.kd≠3;omega)) (fun _=>b1) (fun _=>b2) (fun _=>by omega) (fun _=>by omega) (fun _=>by omega)
 refine ai (fun g=>ie (m:=q) (by omega) (ai (fun b1=>l8 _ fun _=>?_) (fun _=>fl))) (fun g6=>?_)
 ·have:=eq g;exact h0.mk' (fun _=>by omega) (fun _=>by omega) (fun _=>by omega) (fun _=>by omega) (fun _=>by omega) (fun _=>b1) (fun _=>by omega)
 refine ai (fun g=>ie (m:=q) (by omega) (ai (fun b1=>l8 _ fun _=>?_) (fun _=>fl))) (fun g7=>?_)
 ·have:=eq g;exact h0.mk' (fun _=>by omega) (fun _=>by omega) (fun _=>by omega) (fun _=>by omega) (fun _=>by omega) (fun _=>b1) (fun _=>by omega)
 refine ai (fun g=>ie (m:=q) (by omega) (ai (fun _=>fl) (fun b1=>ie (m:=q) (by omega) (ai (fun _=>fl) (fun b2=>ie (m:=q) (by omega) (ai (fun _=>fl) (fun b3=>ai (fun _=>fl) (fun _=>ai (fun _=>fl) (fun _=>?_))))))))) (fun g8=>l8 true fun _=>?_)
 ·have:=eq g;rw [e1];refine aD amv ?_;refine WL q (by omega) s.ct s.cs ho.2.1 (fun b hb=>h b fun vo=>?_) q 0 (by have:=ho.2.1;omega) (by omega) (fun j x hj=>by omega);exact h0.mk' (fun _=>by omega) (fun _=>by omega) (fun _=>e3 b1) (fun _=>e3 b3) (fun _=>e3 b2) (fun _=>by omega) (fun _=>hb vo)
 ·have:=ne g1;have:=ne g2;have:=ne g3;have:=ne g4;have:=ne g5;have:=ne g6;have:=ne g7;have:=ne g8;exact h0.mk' (fun _=>by omega) (fun _=>by omega) (fun _=>by omega) (fun _=>by omega) (fun _=>by omega) (fun _=>by omega) (fun _=>by omega)
theorem aqC (hm:190≤m) {s:PS} (ho:mA s) {K:bj.T→OR} (h:∀b,(b=true→uV s)→Wp (K (b,())) Q) :
  Wp (WC (T m) s.kd s.nm s.pr s.lb s.pc s.tm s.gt (s.ag.map bF) s.ct (s.cs.map eC) s.wb (s.ws.map cW) s.nx K) Q:=by
 obtain ⟨m,rfl⟩:=cG hm;have fl:Wp (rF) (J bj K Q):=aA (aC rfl (h false (fun h0=>by cases h0)));refine bH ahk (ai (fun _=>fl) (fun k1=>ai (fun _=>fl) (fun k2=>?_)));obtain ⟨r,hr⟩:=bm 1 m;have e3:K6 (T m) m m=K6 (T m) m (r+1):=by rw [←hr]
 rw [e3];refine aD amx ?_;refine aqK (m:=m) (by omega) fun y1 y2 y3 y4 y5 y6 y8 b eZ LI hw hn=>?_
 refine ai (fun _=>fl) (fun _=>ai (fun _=>fl) (fun _=>ai (fun _=>fl) (fun _=>ai (fun _=>fl) (fun _=>ai (fun _=>fl) (fun _=>ai (fun _=>fl) (fun _=>ai (fun _=>fl) (fun _=>ai (fun _=>fl) (fun f8=>ai (fun _=>fl) (fun f9=>?_)))))))));refine anN m (by omega) ho ⟨⟨?_,?_⟩,fun h3 h5=>?_,fun hg=>?_⟩ _ h
 ·have:¬ s.kd < 0:=kF k1;omega
 ·have:¬ s.kd > 10:=kF k2;omega
 ·have f:¬ ae eZ.length > 0:=kF f8;rw [hw h3 h5,bJ,cf] at f;exact pS.1 (by omega)
 ·have f:(LI != -1)=false:=f9;rw [hn hg] at f;exact U4.1 f
theorem abf (q:Nat) (wb:Bool) (ws:List WR) (hl:ws.length≤100) {K:dh.T→OR} (h:∀b,Wp (K ((b,(ws.map WR.nx).map bF),())) Q):∀(c i:Nat),ws.length - i < c→i≤ws.length→
  Wp (K8 (T q) q c (((ws.map WR.nx).take i).map bF) wb (ws.map cW) (ae (ws.map cW).length) (i:Int)) (J dh K Q)
 | 0,i,hc,_=>by omega
 | c+1,i,hc,hi=>by
  refine aD amA (ai (fun g1=>?_) (fun g1=>?_))
  ·have af:i < ws.length:=bM g1;have hg:ws[i]? = some ws[i]:=gE af;refine aM Au rfl hg (aE (hC (by simp;omega) (by omega)) ?_);rw [wI i,dr];have:=abf q wb ws hl h c (i+1) (by omega) (by omega);rw [pT,show (ws.map WR.nx)[i]?.toList=[ws[i].nx] by rw [bO,hg];rfl,eg] at this;exact this
  ·have eP:i=ws.length:=by
    have g2:¬ (i:Int) < ae (ws.map cW).length:=kF g1;rw [bJ,cf] at g2;omega
   refine aE (by simp) ?_;rw [dr,Mb,yF (by simp;omega)];exact aA (aC rfl (h false))
theorem Uf (hm:190≤m) {s:PS} (ho:mA s) {K:dh.T→OR} (h:∀b,Wp (K ((b,(bq s).map bF),())) Q) :
  Wp (Bk (T m) s.kd s.nm s.pr s.lb s.pc s.tm s.gt (s.ag.map bF) s.ct (s.cs.map eC) s.wb (s.ws.map cW) s.nx K) Q:=by
 obtain ⟨m,rfl⟩:=cG hm;have hl:=ho.2.2.2;refine bH ahl (aee (m:=m) (by omega) (ai (fun g=>aA ?_) (fun g=>?_)))
 ·have:=h false;unfold bq at this;rw [aJ (show kO s.kd=true from g)] at this;exact aC rfl this
 ·unfold bq at h;rw [az (by rw [show kO s.kd=false from g];simp)] at h;obtain ⟨r,hr⟩:=bm 1 m;have e0:K7 (T m) m m=K7 (T m) m (r+1):=by rw [←hr]
  rw [e0];refine aD amy (ai (fun g1=>?_) (fun g1=>?_))
  ·have af:0 < s.ws.length:=bM g1;have hg:s.ws[0]? = some s.ws[0]:=gE af;refine aM Au (i:=0) rfl hg (aE rfl ?_);have:=abf m s.wb s.ws hl h r 1 (by omega) (by omega);rw [pT,show (s.ws.map WR.nx)[0]?.toList=[s.ws[0].nx] by rw [bO,hg];rfl] at this;exact this
  ·have:s.ws=[]:=by
    have g2:¬ (0:Int) < ae (s.ws.map cW).length:=kF g1;rw [bJ,cf] at g2;exact pS.1 (by omega)
   have:=h true;rw [‹s.ws=[]›] at this;exact aA (aC rfl this)
end
end
section
open Go Go.ax QQ
theorem anV (l:List Int):lS (l.map bF)=true:=by
 cases l with
 | nil=>rfl
 | cons a t=>simp [lS,tj,xF,bF]
theorem MT (l:List Int) (n:Nat) (b:Bool):fR n (l.map bF) b=true:=by
 unfold fR;rw [anV];rfl
section
variable {m:Nat} {Q:V→List (List C)→Prop}
def NA (K:dh.T→OR) (Q:V→List (List C)→Prop):Prop:=∀b (l:List Int),l.length≤20000→Wp (K ((b,l.map bF),())) Q
theorem MI (q:Nat) (cb:Bool) (cs:List CR) (hl:cs.length≤100) (hc:∀c∈cs,c.ag.length≤100) {K:dh.T→OR} (h:NA K Q):∀(c i:Nat) (o:List Int),cs.length - i < c→i≤cs.length→o.length≤101+100 * i→
  Wp (Gq (T q) q c (o.map bF) cb (cs.map eC) (ae (cs.map eC).length) (i:Int)) (J dh K Q)
 | 0,i,o,hc,_,_=>by omega
 | c+1,i,o,c8,hi,ho=>by
  refine aD amZ (ai (fun g1=>?_) (fun g1=>?_))
  ·have af:i < cs.length:=bM g1;have vk:=hc _ (bL af);refine aM (enc:=eC) (f:=fun c=>(c.ro,c.pc,(c.gt,c.ag.map bF),())) (fun a=>⟨by simp [eC],rfl⟩) rfl (gE af) (aE ?_ ?_)
   ·dsimp only;rw [MT];simp;omega
   ·rw [wI i];dsimp only;rw [←eg];exact MI q cb cs hl hc h c (i+1) _ (by omega) (by omega) (by simp;omega)
  ·refine aE (by simp) ?_;rw [dr,Mb];exact aA (aC rfl (h false o (by omega)))
theorem adJ (q:Nat) (cb:Bool) (cs:List CR) (hl:cs.length≤100) (hc:∀c∈cs,c.ag.length≤100) {K:dh.T→OR} (h:NA K Q):∀(c i:Nat),cs.length - i < c→i≤cs.length→
  Wp (Lm (T q) q c true [] cb (cs.map eC) (ae (cs.map eC).length) (i:Int)) (J dh K Q)
 | 0,i,c8,_=>by omega
 | c+1,i,c8,hi=>by
  refine aD am0 (ai (fun g1=>?_) (fun g1=>aA (aC rfl (h true [] (by simp)))));have af:i < cs.length:=bM g1;have vk:=hc _ (bL af);refine aM (enc:=eC) (f:=fun c=>(c.ro,c.pc,(c.gt,c.ag.map bF),())) (fun a=>⟨by simp [eC],rfl⟩) rfl (gE af) (aE ?_ ?_)
  ·dsimp only;rw [MT];simp;omega
  ·rw [wI i];refine ai (fun g2=>?_) (fun g2=>?_)
   ·have e:cs[i].ag.map bF=[]:=by simpa using g2
    dsimp only;rw [e];exact adJ q cb cs hl hc h c (i+1) (by omega) (by omega)
   ·exact MI q cb cs hl hc h c (i+1) _ (by omega) (by omega) (by omega)
theorem aeq (hm:210≤m) {s:PS} (ho:mA s) {K:dh.T→OR} (h:NA K Q) :
  Wp (Oe (T m) s.kd s.nm s.pr s.lb s.pc s.tm s.gt (s.ag.map bF) s.ct (s.cs.map eC) s.wb (s.ws.map cW) s.nx K) Q:=by
 obtain ⟨m,rfl⟩:=cG hm;obtain ⟨r,hr⟩:=bm 1 m;have e20:xJ (T m) m m=xJ (T m) m (r+1):=by rw [←hr]
 have e21:CZ (T m) m m=CZ (T m) m (r+1):=by rw [←hr]
 have Xl:Gr (T m) m m=Gr (T m) m (r+1):=by rw [←hr]
 have e11:Ln (T m) m m=Ln (T m) m (r+1):=by rw [←hr]
 have vk:=ho.1;have aR:=ho.2.1;have one:Wp (xJ (T m) m m (tS s) ([s.tm].map bF)) (J dh K Q):=by
  rw [e20];refine aD am2 (aE ?_ ?_)
  ·show (fR 8 (s.ag.map bF) _&&true&&true&&_&&true&&decide ((([s.tm].map bF).length+(s.ag.map bF).length) * 8≤_))=true;rw [MT];simp;omega
  ·rw [Xl];refine aD aap ?_;have:=MI m s.ct s.cs aR ho.2.2.1 h m 0 ([s.tm]++s.ag) (by omega) (by omega) (by simp;omega);rw [eg] at this;exact this
 have two:Wp (CZ (T m) m m (tS s) true []) (J dh K Q):=by
  rw [e21];refine aD am3 (aE ?_ (ai (fun g=>?_) (fun g=>?_)))
  ·show (fR 8 (s.ag.map bF) _&&(true&&true&&decide ((s.ag.map bF).length * 8≤_)))=true;rw [MT];simp;omega
  ·have e:s.ag.map bF=[]:=by
    have:(s.ag.map bF).isEmpty=true:=g;simpa using this
   rw [e11];refine aD am1 ?_;have:=adJ m s.ct s.cs aR ho.2.2.1 h m 0 (by omega) (by omega);rw [←e] at this;exact this
  ·rw [Xl];refine aD aap ?_;exact MI m s.ct s.cs aR ho.2.2.1 h m 0 s.ag (by omega) (by omega) (by omega)
 exact bH ahq (ai (fun _=>one) (fun _=>ai (fun _=>one) (fun _=>ai (fun _=>one) (fun _=>ai (fun _=>ai (fun _=>one) (fun _=>two)) (fun _=>two)))))
def iY (r:RR):au [.tg 1]:=(nq r,())
def tB (b:Bool) (tm:List TM):au [.tg 6]:=((.im b,tm.map bz),())
theorem adS (hm:1≤m) {x1:au nn} {x2:au [.tg 6]} {x3:au [.tg 1]} {K:qE.T→OR} (h:Wp (K ((),((),()),x2,x3,())) Q):Wp (aG qE ((T m) 155 [(.one (iC (-1))),pE,(.one (.ptr (.e 1) 0 0)),(.one (.ptr (.e 2) 0 0))] [(bx nn x1),(bx [.tg 6] x2),(bx [.tg 1] x3)]) K) Q:=by
 obtain ⟨m,rfl⟩:=cG hm;exact bH OT (gM rfl (aA (aC rfl h)))
theorem abF {o:List Nat} (h:o.length≤1000):((iY (o.map aU)).1.2.length==(iY (o.map aU)).1.2.length&&true&&decide (((iY (o.map aU)).1.2.length+1) * 8≤140737488355328))=true:=by
 have e:(iY (o.map aU)).1.2.length=o.length:=by cases o<;>simp [iY,nq]
 rw [e];exact hC (by omega) (by omega)
theorem Vu {o:List Nat} {Z:Tag→OR} (hX:o=[]→Wp (Z (.im true)) Q) (hY:o≠[]→Wp (Z .own) Q):Wp (zZ (nq (o.map aU)).1 Z) Q:=by
 cases o with
 | nil=>exact eY (hX rfl)
 | cons a t=>exact je (hY (by simp))
theorem ap9 (hm:2≤m) {b:Bool} {tm:List TM} {t:TM} {i:Nat} (hi:tm[i]? = some t) {o:List Nat} (ho:o.length≤10) {x1:au nn} {K:qE.T→OR}
  (hl:∀{K':qE.T→OR} {Q':V→List (List C)→Prop} {y1:au nn},(∀(o':List Nat),(∀x∈o',x∈o∨x < tm.length)→o'.length≤o.length+1→Wp (K' ((),((),()),tB b tm,iY (o'.map aU),())) Q')→Wp (aG qE ((T (m - 1)) 155 [(.one (iC t.l)),pE,(.one (.ptr (.e 1) 0 0)),(.one (.ptr (.e 2) 0 0))] [(bx nn y1),(bx [.tg 6] (tB b tm)),(bx [.tg 1] (iY (o.map aU)))]) K') Q')
  (hr:∀{K':qE.T→OR} {Q':V→List (List C)→Prop} {y1:au nn} {o1:List Nat},o1.length≤o.length+1→(∀(o':List Nat),(∀x∈o',x∈o1∨x < tm.length)→o'.length≤o1.length+1→Wp (K' ((),((),()),tB b tm,iY (o'.map aU),())) Q')→Wp (aG qE ((T (m - 1)) 155 [(.one (iC t.r)),pE,(.one (.ptr (.e 1) 0 0)),(.one (.ptr (.e 2) 0 0))] [(bx nn y1),(bx [.tg 6] (tB b tm)),(bx [.tg 1] (iY (o1.map aU)))]) K') Q')
  (h:∀(o':List Nat),(∀x∈o',x∈o∨x < tm.length)→o'.length≤o.length+3→Wp (K ((),((),()),tB b tm,iY (o'.map aU),())) Q) :
  Wp (aG qE ((T m) 155 [(.one (iC (i:Int))),pE,(.one (.ptr (.e 1) 0 0)),(.one (.ptr (.e 2) 0 0))] [(bx nn x1),(bx [.tg 6] (tB b tm)),(bx [.tg 1] (iY (o.map aU)))]) K) Q:=by
 obtain ⟨m,rfl⟩:=cG hm;have kP:i < tm.length:=(cB.1 hi).1;have qa:∀a:TM,4+1≤(bz a).length∧dS bY (List.take 1 (List.drop 4 (bz a)))=some (a.l,()):=fun a=>⟨by simp [bz],rfl⟩
 have E9:∀a:TM,5+1≤(bz a).length∧dS bY (List.take 1 (List.drop 5 (bz a)))=some (a.r,()):=fun a=>⟨by simp [bz],rfl⟩
 refine bH OT (eH (cg (by omega)) (eY ?_));refine aM (enc:=bz) (f:=fun t=>(t.l,())) qa rfl hi ?_;refine hl (fun o1 h1 jI=>eY ?_);refine aM (enc:=bz) (f:=fun t=>(t.r,())) E9 rfl hi ?_;refine hr jI (fun o2 h2 dX=>?_);have mem:∀x∈o2++[i],x∈o∨x < tm.length:=by
  intro x hx;rw [dC] at hx;rcases hx with hx | hx
  ·rcases h2 x hx with h3 | h3
   ·exact h1 x h3
   ·exact .inr h3
  ·simp at hx;subst hx;exact .inr kP
 have fin:=h (o2++[i]) mem (by simp;omega);refine Vu (o:=o2) (fun he=>aE rfl (aA ?_)) (fun he=>aE (abF (o:=o2) (by omega)) (aA ?_))
 ·subst he;exact aC rfl fin
 ·rw [dr];have e:iY ((o2++[i]).map aU)=((.own,o2.map aU++[aU i]),()):=by
   rw [eg];cases o2 with
   | nil=>exact absurd rfl he
   | cons a t=>rfl
  rw [e] at fin;exact aC rfl fin
theorem T2 (hm:3≤m) {b:Bool} {tm:List TM} {t:TM} {i:Nat} (hi:tm[i]? = some t) (hl:t.l = -1) (hr:t.r = -1) {o:List Nat} (ho:o.length≤10) {x1:au nn} {K:qE.T→OR}
  (h:∀(o':List Nat),(∀x∈o',x∈o∨x < tm.length)→o'.length≤o.length+1→Wp (K ((),((),()),tB b tm,iY (o'.map aU),())) Q) :
  Wp (aG qE ((T m) 155 [(.one (iC (i:Int))),pE,(.one (.ptr (.e 1) 0 0)),(.one (.ptr (.e 2) 0 0))] [(bx nn x1),(bx [.tg 6] (tB b tm)),(bx [.tg 1] (iY (o.map aU)))]) K) Q:=by
 obtain ⟨m,rfl⟩:=cG hm;have kP:i < tm.length:=(cB.1 hi).1;have qa:∀a:TM,4+1≤(bz a).length∧dS bY (List.take 1 (List.drop 4 (bz a)))=some (a.l,()):=fun a=>⟨by simp [bz],rfl⟩
 have E9:∀a:TM,5+1≤(bz a).length∧dS bY (List.take 1 (List.drop 5 (bz a)))=some (a.r,()):=fun a=>⟨by simp [bz],rfl⟩
 refine bH OT (eH (cg (by omega)) (eY ?_));refine aM (enc:=bz) (f:=fun t=>(t.l,())) qa rfl hi ?_;dsimp only;rw [hl];refine adS (by omega) (eY ?_);refine aM (enc:=bz) (f:=fun t=>(t.r,())) E9 rfl hi ?_;dsimp only;rw [hr];refine adS (by omega) ?_
 have fin := h (o ++ [i]) (by
   intro x hx
   rw [dC] at hx
   rcases hx with hx | hx
   · exact .inl hx
   · simp at hx; subst hx; exact .inr kP) (by simp)
 refine Vu (o:=o) (fun he=>aE rfl (aA ?_)) (fun he=>aE (abF (o:=o) (by omega)) (aA ?_))
 ·subst he;exact aC rfl fin
 ·rw [dr];have e:iY ((o++[i]).map aU)=((.own,o.map aU++[aU i]),()):=by
   rw [eg];cases o with
   | nil=>exact absurd rfl he
   | cons a t=>rfl
  rw [e] at fin;exact aC rfl fin
theorem aqR (hm:10≤m) {b:Bool} {tm:List TM} (hT:jk tm) {i:Nat} (hi:i < tm.length) {K:dh.T→OR} (h:∀b (l:List Nat),(∀x∈l,x < tm.length)→l.length≤3→Wp (K ((b,l.map aU),())) Q):Wp (WD (T m) b (tm.map bz) (i:Int) K) Q:=by
 obtain ⟨m,rfl⟩:=cG hm;have hg:tm[i]? = some tm[i]:=gE hi;refine bH ahr ?_;have fin:∀o:List Nat,(∀x∈o,x∈([]:List Nat)∨x < tm.length)→o.length≤3→Wp (zZ (iY (o.map aU)).1.1 fun t=>zO t (decide (0+(iY (o.map aU)).1.2.length≤(iY (o.map aU)).1.2.length)) (some ((.one (lC (.im (zB t)) 1 (zW t (iY (o.map aU)).1.2))),[]))) (J dh K Q):=by
  intro o ho hl;have af:∀x∈o,x < tm.length:=fun x hx=>(ho x hx).elim (fun h=>by cases h) id
  cases o with
  | nil=>exact eY (aA (aC rfl (h true [] af (by simp))))
  | cons a t=>
   refine je (aE (by simp) ?_);have e:zW .own (iY ((a::t).map aU)).1.2=(a::t).map aU:=by show aW (whole _)=_;rw [dr];exact GQ (a::t)
   rw [e];exact aA (aC rfl (h false (a::t) af hl))
 rcases hT i _ hg with Fo | ⟨_,_,a,c,x,y,h1,h2,_,_,_,h6,h7,h8,h9,_⟩
 ·exact T2 (m:=m) (b:=b) (tm:=tm) (o:=[]) (by omega) hg Fo.2.1 Fo.2.2.1 (by simp) fun o ho hl=>fin o ho (by have:o.length≤0+1:=hl;omega)
 ·refine ap9 (m:=m) (b:=b) (tm:=tm) (o:=[]) (by omega) hg (by simp) ?_ ?_ fun o ho hl=>fin o ho hl
  ·intro K' Q' y1 hk;rw [h1];exact T2 (m:=m - 1) (by omega) h6 h8.2.1 h8.2.2.1 (by simp) hk
  ·intro K' Q' y1 o1 ho1 hk;rw [h2];exact T2 (m:=m - 1) (by omega) h7 h9.2.1 h9.2.2.1 (by have:o1.length≤0+1:=ho1;omega) hk
end
end
section
open Go Go.ax QQ
def inc (s:PS):Nat:=if s.kd=3∨s.kd=5 then 1 else 0
def PP (ss:List PS) (at_:Nat):List Int:=(ss.take at_).flatMap bq
theorem Ve {ss:List PS} {i:Nat} {s:PS} (h:ss[i]? = some s):PP ss (i+1)=PP ss i++bq s:=by
 unfold PP;rw [pT,h];simp
theorem aeR {ss:List PS} {n i:Nat} {s:PS} {t:Int} (hi:i < n) (h:ss[i]? = some s) (ht:t∈bq s):t∈PP ss n:=by
 unfold PP;rw [Nc];refine ⟨s,?_,ht⟩;refine fm (i:=i) ?_;rw [M',aJ hi,h]
structure SI (ss:List PS) (n:Nat) (cn dp:List Nat):Prop where
 lc:cn.length=ss.length
 ld:dp.length=ss.length
 c:∀k,k < ss.length→cn[k]? = some ((PP ss n).count (k:Int))
 f:∀i s,i < n→ss[i]? = some s→uV s
 e:∀i s t,i < n→ss[i]? = some s→t∈bq s→∃k:Nat,t=(k:Int)∧i < k∧k < ss.length
 u:∀k:Nat,1≤k→k < n→(PP ss n).count (k:Int)=1
 d:∀i s,i < n→ss[i]? = some s→∃x,dp[i]? = some x∧x≤24∧∀k:Nat,(k:Int)∈bq s→(PP ss n).count (k:Int)≤1→∀s',ss[k]? = some s'→dp[k]? = some (if k < n then x+inc s' else x)
 b:∀(k x:Nat),dp[k]? = some x→x≤24
structure SJ (ss:List PS) (n:Nat) (s:PS) (j:Nat) (cn dp:List Nat):Prop where
 lc:cn.length=ss.length
 ld:dp.length=ss.length
 c:∀k,k < ss.length→cn[k]? = some ((PP ss n++(bq s).take j).count (k:Int))
 f:∀i s,i≤n→ss[i]? = some s→uV s
 e:∀i s t,i < n→ss[i]? = some s→t∈bq s→∃k:Nat,t=(k:Int)∧i < k∧k < ss.length
 e':∀t∈(bq s).take j,∃k:Nat,t=(k:Int)∧n < k∧k < ss.length
 u:∀k:Nat,1≤k→k≤n→(PP ss n).count (k:Int)=1
 d':∃x,dp[n]? = some x∧∀k:Nat,(k:Int)∈(bq s).take j→dp[k]? = some x
 d:∀i s1,i < n→ss[i]? = some s1→∃x,dp[i]? = some x∧x≤24∧∀k:Nat,(k:Int)∈bq s1→(PP ss n++(bq s).take j).count (k:Int)≤1→∀s',ss[k]? = some s'→dp[k]? = some (if k≤n then x+inc s' else x)
 b:∀(k x:Nat),dp[k]? = some x→x≤24∨dp[n]? = some x
theorem SI.zero (ss:List PS):SI ss 0 (List.replicate ss.length 0) (List.replicate ss.length 0):=
 ⟨by simp,by simp,fun k hk=>by simp [PP,hk],fun i s h=>by omega,fun i s t h=>by omega,(fun k h1 h2=>by omega),(fun i s h=>by omega),(fun k x hx=>by rw [UO] at hx;split at hx<;>cases hx;omega)⟩
theorem SI.start {ss:List PS} {n:Nat} {cn dp:List Nat} (h:SI ss n cn dp) {s:PS} (hs:ss[n]? = some s) (hf:uV s) (hc:n=0∨cn[n]? = some 1) {x:Nat} (hx:dp[n]? = some x):SJ ss n s 0 cn (dp.set n (x+inc s)):=by
 have hn:n < ss.length:=(cB.1 hs).1;refine ⟨h.lc,by simpa using h.ld,fun k hk=>by rw [A0,mH];exact h.c k hk,?_,h.e,by simp,?_,⟨x+inc s,by rw [yC (by rw [h.ld];exact hn)],by simp⟩,?_,?_⟩;rotate_left 3
 ·intro k y hy;by_cases hk:k=n
  ·subst hk;exact .inr hy
  ·rw [qJ (by omega)] at hy;exact .inl (h.b k y hy)
 ·intro i s1 hi h1;by_cases h2:i < n
  ·exact h.f i s1 h2 h1
  ·rw [show i=n by omega,hs] at h1;cases h1;exact hf
 ·intro k h1 h2;by_cases h3:k < n
  ·exact h.u k h1 h3
  ·have hk:k=n:=by omega
   subst hk;rcases hc with hc | hc
   ·omega
   ·have:=h.c k hn;rw [hc] at this;exact (uS this).symm
 ·intro i s1 hi h1;obtain ⟨y,e1,e2,e3⟩:=h.d i s1 hi h1;refine ⟨y,by rw [qJ (by omega)];exact e1,e2,fun k hk qW s' lN=>?_⟩;rw [A0,mH] at qW;have g:=e3 k hk qW s' lN;by_cases hkn:k=n
  ·subst hkn;rw [hs] at lN;cases lN;rw [az (by omega),hx] at g;cases g;rw [yC (by rw [h.ld];exact hn),aJ (bT _)]
  ·rw [qJ (by omega),g];by_cases h4:k < n
   ·rw [aJ h4,aJ (by omega)]
   ·rw [az h4,az (by omega)]
theorem SJ.ahD {ss:List PS} {n:Nat} {s:PS} {j:Nat} {cn dp:List Nat} (h:SJ ss n s j cn dp) {k:Nat} (hj:(bq s)[j]? = some (k:Int)) (h1:n < k) (h2:k < ss.length) {c x:Nat} (hc:cn[k]? = some c) (hx:dp[n]? = some x):SJ ss n s (j+1) (cn.set k (c+1)) (dp.set k x):=by
 have ht:(bq s).take (j+1)=(bq s).take j++[(k:Int)]:=by rw [pT,hj];rfl
 have dQ:∀k':Nat,(PP ss n++(bq s).take (j+1)).count (k':Int)=(PP ss n++(bq s).take j).count (k':Int)+(if k'=k then 1 else 0):=by
  intro k';rw [ht,←eo,AV];congr 1;by_cases hk:k'=k
  ·subst hk;simp
  ·rw [az hk];exact HC.2 (by simp;omega)
 refine ⟨by simpa using h.lc,by simpa using h.ld,?_,h.f,h.e,?_,h.u,?_,?_,?_⟩;rotate_left 4
 ·intro k' y hy;rw [qJ (by omega)];by_cases hk:k'=k
  ·subst hk;rw [yC (by rw [h.ld];exact h2)] at hy;cases hy;exact .inr hx
  ·rw [qJ (by omega)] at hy;exact h.b k' y hy
 ·intro k' iG;rw [dQ];by_cases hk:k'=k
  ·subst hk;rw [yC (by rw [h.lc];exact h2),aJ rfl];have:=h.c k' iG;rw [hc] at this;rw [uS this]
  ·rw [qJ (by omega),az hk];exact h.c k' iG
 ·intro t h3;rw [ht,dC] at h3;rcases h3 with h3 | h3
  ·exact h.e' t h3
  ·simp at h3;exact ⟨k,h3,h1,h2⟩
 ·obtain ⟨y,e1,e2⟩:=h.d';rw [hx] at e1;cases e1;refine ⟨x,by rw [qJ (by omega)];exact hx,fun k' iG=>?_⟩;by_cases hk:k'=k
  ·subst hk;rw [yC (by rw [h.ld];exact h2)]
  ·rw [qJ (by omega)];refine e2 k' ?_;rw [ht,dC] at iG;rcases iG with iG | iG
   ·exact iG
   ·simp at iG;omega
 ·intro i s1 hi kx;obtain ⟨y,e1,e2,e3⟩:=h.d i s1 hi kx;refine ⟨y,by rw [qJ (by omega)];exact e1,e2,fun k' iG qW s' lN=>?_⟩;rw [dQ] at qW;by_cases hk:k'=k
  ·subst hk;have:1≤(PP ss n++(bq s).take j).count (k':Int):=List.count_pos_iff.2 (HJ _ (aeR hi kx iG));rw [aJ rfl] at qW;omega
  ·rw [qJ (by omega)];rw [az hk] at qW;exact e3 k' iG (by omega) s' lN
theorem SJ.fin {ss:List PS} {n:Nat} {s:PS} {j:Nat} {cn dp:List Nat} (h:SJ ss n s j cn dp) (hs:ss[n]? = some s) (hj:(bq s).length≤j) {x:Nat} (hx:dp[n]? = some x) (cY:x≤24):SI ss (n+1) cn dp:=by
 have ht:(bq s).take j=bq s:=yF hj;have hp:=Ve hs;have lL:=h.c;have c6:=h.e';have dz:=h.d';have hd:=h.d;rw [ht] at lL c6 dz hd;rw [←hp] at lL hd;refine ⟨h.lc,h.ld,lL,fun i s1 hi=>h.f i s1 (by omega),?_,?_,?_,fun k y hy=>?_⟩;rotate_left 3
 ·rcases h.b k y hy with g | g
  ·exact g
  ·rw [hx] at g;cases g;exact cY
 ·intro i s1 t hi h1 h2;by_cases h3:i < n
  ·exact h.e i s1 t h3 h1 h2
  ·rw [show i=n by omega] at h1 ⊢;rw [hs] at h1;cases h1;exact c6 t h2
 ·intro k h1 h2;rw [hp,AV,h.u k h1 (by omega)]
  have : (bq s).count (k : Int) = 0 := HC.2 (fun hm => by
    obtain ⟨k', e1, e2, _⟩ := c6 _ hm
    omega)
  omega
 ·intro i s1 hi h1;by_cases h3:i < n
  ·obtain ⟨y,e1,e2,e3⟩:=hd i s1 h3 h1;refine ⟨y,e1,e2,fun k hk qW s' lN=>?_⟩;rw [e3 k hk qW s' lN];by_cases h4:k≤n
   ·rw [aJ h4,aJ (by omega)]
   ·rw [az h4,az (by omega)]
  ·rw [show i=n by omega] at h1 ⊢;rw [hs] at h1;cases h1;obtain ⟨y,e1,e2⟩:=dz;rw [hx] at e1;cases e1;refine ⟨x,hx,cY,fun k hk qW s' lN=>?_⟩;obtain ⟨k',g1,g2,_⟩:=c6 _ hk;rw [e2 k hk,az (by omega)]
structure SF (ss:List PS):Prop where
 f:∀s∈ss,uV s
 e:∀i s t,ss[i]? = some s→t∈bq s→∃k:Nat,t=(k:Int)∧i < k∧k < ss.length
 u:∀k:Nat,1≤k→k < ss.length→(ss.flatMap bq).count (k:Int)=1
 d:∃D:Nat→Nat,∀i s,ss[i]? = some s→D i≤24∧∀k:Nat,(k:Int)∈bq s→∀s',ss[k]? = some s'→D k=D i+inc s'
theorem SI.all {ss:List PS} {cn dp:List Nat} (h:SI ss ss.length cn dp):SF ss:=by
 have hp:PP ss ss.length=ss.flatMap bq:=by simp [PP]
 refine ⟨?_,?_,?_,⟨fun i=>dp.getD i 0,?_⟩⟩
 ·intro s hs;obtain ⟨i,hi,rfl⟩:=DX hs;exact h.f i _ hi (gE hi)
 ·intro i s t h1 h2;exact h.e i s t (cB.1 h1).1 h1 h2
 ·intro k h1 h2;rw [←hp];exact h.u k h1 h2
 ·intro i s h1;have hi:=(cB.1 h1).1;obtain ⟨x,e1,e2,e3⟩:=h.d i s hi h1;have g1:dp.getD i 0=x:=by simp [List.getD,e1]
  refine ⟨by show dp.getD i 0≤24;rw [g1];exact e2,fun k hk s' lN=>?_⟩;obtain ⟨k',q1,q2,q3⟩:=h.e i s _ hi h1 hk;have hkk:k=k':=by omega
  have qW:=h.u k (by omega) (by omega);have:=e3 k hk (by omega) s' lN;rw [aJ (by omega)] at this;show dp.getD k 0=dp.getD i 0+inc s';rw [g1];simp [List.getD,this]
end
section
open Go Go.ax QQ
def wD (t:TM):TR:=⟨t.kd,t.nm,t.n,t.tx,t.l,t.r⟩
theorem Og (tm:List TM):tm.map bz=(tm.map wD).map cR:=by rw [US];rfl
def tP (p:PC):au fu:=(p.nm,(p.pb,p.pm.map eJ),(p.tb,p.tm.map bz),(p.sb,p.ss.map cq),())
theorem Tj {l:List Nat} {i:Nat} (h:i < l.length) {v:Nat}:bX (l.map aU) (0+i) 0 (.int .i64 (v:Int))=(l.set i v).map aU:=by
 have:(l.map aU).getD (0+i) []=aU l[i]:=by simp [List.getD,h]
 unfold bX;rw [this,dc,AY];rfl
section
variable {m:Nat} {Q:V→List (List C)→Prop}
theorem aeb (hm:1≤m) {a b c:Int} {K:dv.T→OR} (h:Wp (K ((a,b,c,()),())) Q):Wp (c46 (T m) a b c K) Q:=by
 obtain ⟨m,rfl⟩:=cG hm;exact bH ahh (aA (aC rfl h))
theorem Ui (hm:100≤m) {b:Bool} {tm:List TM} {z:Int} {K:bj.T→OR} (h:Wp (K (sU (tm.map wD) z,())) Q):Wp (Ep (T m) b (tm.map bz) z K) Q:=by
 rw [Og];exact kB (x:=(sU (tm.map wD) z,())) (aa3 z m hm) rfl h
theorem aa4 {l:List TR} {z:Int} (h:sU l z=true):∃i:Nat,z=(i:Int)∧i < l.length:=by
 simp only [sU,bK,fy] at h;exact ⟨z.toNat,by omega,by omega⟩
def og (K:dv.T→OR) (Q:V→List (List C)→Prop):Prop:=∀e a b,e≠0→Wp (K ((e,a,b,()),())) Q
variable {K:dv.T→OR}
theorem mS (hF:og K Q) (hm:1≤m) {e a b:Int} (he:e≠0):Wp (c46 (T m) e a b fun v=>(some ((.agg [(iC v.1.1),(iC v.1.2.1),(iC v.1.2.2.1)]),[]))) (J dv K Q):=
 aeb hm (aA (aC rfl (hF e a b he)))
theorem adg (q:Nat) (hq:230≤q) (hF:og K Q) {p:PC} {cn dp:RR} {a0 a8 a9 aO:Int} {a1:au eN} {a6 cJ:Bool} {a7 a12:RR} {fL:Int} {r c1 c0:Nat} (hr:r≤100000) {tb:Bool} {tl:List Nat} (sI:∀x∈tl,x < p.tm.length) (h3:tl.length≤3)
  (hZ:∀us:List Bool,us.length=p.tm.length→Wp (Gn (T q) q c0 c1 a0 a1 (tP p) cn dp (us.map gq) a6 a7 a8 a9 aO cJ a12 fL ((r+1:Nat):Int)) (J dv K Q)) :
  ∀(c i:Nat) (us:List Bool),tl.length - i < c→i≤tl.length→us.length=p.tm.length→Wp (Le (T q) q c0 c1 c a0 a1 (tP p) cn dp (us.map gq) a6 a7 a8 a9 aO cJ a12 fL (r:Int) tb (tl.map aU) (ae (tl.map aU).length) (i:Int)) (J dv K Q)
 | 0,i,us,hc,_,_=>by omega
 | c+1,i,us,hc,hi,nN=>by
  refine aD amL (ai (fun g1=>?_) (fun g1=>?_))
  ·have af:i < tl.length:=bM g1;have hx:=sI _ (bL af);have JO:tl[i] < us.length:=by omega
   refine aM gS rfl (gE af) ?_;refine nZ Dq rfl (gE JO) (ai (fun _=>mS hF (by omega) (by decide)) (fun _=>?_));refine jd rfl (aE (bf (by simpa using JO)) (fU (b:=gq us[tl[i]]) (by rw [dc,bO,gE JO];rfl) (aE rfl (iO (v:=(us[tl[i]],())) rfl ?_))));rw [Mz JO,wI i];exact adg q hq hF hr sI h3 hZ c (i+1) (us.set tl[i] true) (by omega) (by omega) (by simpa using nN)
  ·rw [wI r];exact hZ us nN
theorem adf (q:Nat) (hq:21000≤q) (hF:og K Q) {p:PC} (hT:jk p.tm) {cn dp:RR} {a0 a8 a9 aO:Int} {a1:au eN} {a6 cJ:Bool} {a7:RR} {c0:Nat} {rl:List Int} (hl:rl.length≤20000)
  (hZ:∀us:List Bool,us.length=p.tm.length→Wp (Ac (T q) q c0 a0 a1 (tP p) cn dp (us.map gq) a6 a7 a8 (ak (a9+1))) (J dv K Q)) :
  ∀(c r:Nat) (us:List Bool),rl.length - r < c→r≤rl.length→us.length=p.tm.length→Wp (Gn (T q) q c0 c a0 a1 (tP p) cn dp (us.map gq) a6 a7 a8 a9 aO cJ (rl.map bF) (ae (rl.map bF).length) (r:Int)) (J dv K Q)
 | 0,r,us,hc,_,_=>by omega
 | c+1,r,us,hc,hr,nN=>by
  refine aD amK (ai (fun g1=>?_) (fun g1=>hZ us nN));have af:r < rl.length:=bM g1;refine aM oQ rfl (gE af) ?_;refine Ui (m:=q) (by omega) (ai (fun _=>mS hF (by omega) (by decide)) (fun g2=>?_));have Fv:sU (p.tm.map wD) rl[r]=true:=by simpa using g2
  obtain ⟨i,hi,kP⟩:=aa4 Fv;rw [cf] at kP;dsimp only;rw [hi];refine aqR (m:=q) (by omega) hT kP fun b tl sI h3=>?_
  exact adg q (by omega) hF (by omega) sI h3 (fun Hr FI=>adf q hq hF hT hl hZ c (r+1) Hr (by omega) (by omega) FI) q 0 us (by omega) (by omega) nN
theorem adh (q:Nat) (hq:21000≤q) (hF:og K Q) {p:PC} (hp:gx p) (kr:p.ss.length≤80) {n:Nat} {s:PS} (hs:p.ss[n]? = some s) {a0 a8:Int} {a1:au eN} {a6:Bool} {a7:RR} {c0:Nat} {nb:Bool}
  (hZ:∀cn dp (us:List Bool),SI p.ss (n+1) cn dp→us.length=p.tm.length→Wp (Ac (T q) q c0 a0 a1 (tP p) (cn.map aU) (dp.map aU) (us.map gq) a6 a7 a8 ((n+1:Nat):Int)) (J dv K Q)) (us:List Bool) (nN:us.length=p.tm.length) :
  ∀(c j:Nat) (cn dp:List Nat),(bq s).length - j < c→j≤(bq s).length→SJ p.ss n s j cn dp→Wp (Lf (T q) q c0 c a0 a1 (tP p) (cn.map aU) (dp.map aU) (us.map gq) a6 a7 a8 (n:Int) (tS s) (n:Int) nb ((bq s).map bF) (ae ((bq s).map bF).length) (j:Int)) (J dv K Q)
 | 0,j,cn,dp,hc,_,_=>by omega
 | c+1,j,cn,dp,hc,hj,h=>by
  have hn:n < p.ss.length:=(cB.1 hs).1;have oF:=hp.s2 s (fm hs);have nM:(bq s).length≤100:=by
   unfold bq;split
   ·simp
   ·simpa using oF.2.2.2
  have Jk:n < dp.length:=by rw [h.ld];exact hn
  refine aD amM (ai (fun g1=>?_) (fun g1=>?_))
  ·have af:j < (bq s).length:=bM g1;have hg:(bq s)[j]? = some (bq s)[j]:=gE af;refine aM oQ rfl hg (ai (fun _=>mS hF (by omega) (by decide)) (fun g2=>ai (fun _=>mS hF (by omega) (by decide)) (fun g3=>?_)));have k1:¬ (bq s)[j]≤(n:Int):=kF g2;have k2:¬ (bq s)[j]≥ae (p.ss.map cq).length:=kF g3;rw [bJ,cf] at k2;obtain ⟨k,hk⟩:∃k:Nat,(bq s)[j]=(k:Int):=⟨(bq s)[j].toNat,by omega⟩
   have uc:n < k:=by omega
   have ku:k < p.ss.length:=by omega
   have xp:k < cn.length:=by rw [h.lc];exact ku
   have oE:k < dp.length:=by rw [h.ld];exact ku
   obtain ⟨r,hr⟩:=bm 1 q;have e4:Lg (T q) q c0 c q=Lg (T q) q c0 c (r+1):=by rw [←hr]
   have YI:=h.c k ku;have PY:cn[k]≤10000:=by
    have q1:cn[k]=(PP p.ss n++(bq s).take j).count (k:Int):=by
     rw [gE xp] at YI;exact uS YI
    rw [q1];refine iQ DV ?_;rw [ew];have q2:(PP p.ss n).length≤80 * 100:=by
     unfold PP;rw [List.length_flatMap];have:∀(l:List PS),(∀x∈l,x∈p.ss)→((l.map fun a=>(bq a).length).sum)≤l.length * 100:=by
      intro l;induction l with
      | nil=>intro _;simp
      | cons a t ih=>
       intro hm;have:=ih (fun x hx=>hm x (kE _ hx));have ha:=hp.s2 a (hm a jT);have vk:(bq a).length≤100:=by
        unfold bq;split
        ·simp
        ·simpa using ha.2.2.2
       simp only [fS,tF,gp];omega
     have:=this (p.ss.take n) (fun x hx=>tD hx);have:(p.ss.take n).length≤80:=by simp;omega
     omega
    have:((bq s).take j).length≤100:=by simp;omega
    omega
   dsimp only;rw [hk,e4];refine aD amN ?_;refine nZ gS rfl (gE xp) ?_;refine jd rfl (aE (bf (by simpa using xp)) (fU (b:=aU cn[k]) (by rw [dc,bO,gE xp];rfl) (aE rfl (iO (v:=((cn[k]:Int),())) rfl ?_))));refine nZ gS rfl (gE Jk) ?_;refine jd rfl (aE (bf (by simpa using oE)) (fU (b:=aU dp[k]) (by rw [dc,bO,gE oE];rfl) (aE rfl (iO (v:=((dp[k]:Int),())) rfl ?_))));dsimp only;rw [show ak ((cn[k]:Int)+1)=((cn[k]+1:Nat):Int) from fY,Tj xp,Tj oE,wI j];exact adh q hq hF hp kr hs hZ us nN c (j+1) _ _ (by omega) (by omega) (h.ahD (by rw [hg,hk]) uc ku (gE xp) (gE Jk))
  ·have eP:(bq s).length≤j:=by
    have g2:¬ (j:Int) < ae ((bq s).map bF).length:=kF g1;rw [bJ,cf] at g2;omega
   refine nZ gS rfl (gE Jk) (ai (fun _=>mS hF (by omega) (by decide)) (fun g2=>?_));have cY:dp[n]≤24:=by
    have:¬ ((dp[n]:Nat):Int) > 24:=kF g2;omega
   have hSI:=h.fin hs eP (gE Jk) cY;refine aeq (m:=q) (by omega) oF fun tb rl gF=>?_
   refine adf q hq hF hp.t2 gF (fun Hr FI=>?_) q 0 us (by omega) (by omega) nN;rw [wI n];exact hZ cn dp Hr hSI FI
theorem ade (q:Nat) (hq:21000≤q) (hF:og K Q) {p:PC} (hp:gx p) (kr:p.ss.length≤80) {a0:Int} {a1:au eN} {a6:Bool} (h:SF p.ss→Wp (K ((0,0,0,()),())) Q) :
  ∀(c n:Nat) (cn dp:List Nat) (us:List Bool),p.ss.length - n < c→n≤p.ss.length→SI p.ss n cn dp→us.length=p.tm.length→
   Wp (Ac (T q) q c a0 a1 (tP p) (cn.map aU) (dp.map aU) (us.map gq) a6 (p.ss.map cq) (ae (p.ss.map cq).length) (n:Int)) (J dv K Q)
 | 0,n,cn,dp,us,hc,_,_,_=>by omega
 | c+1,n,cn,dp,us,hc,hn,hI,nN=>by
  refine aD amJ (ai (fun g1=>?_) (fun g1=>?_))
  ·have af:n < p.ss.length:=bM g1;have hs:p.ss[n]? = some p.ss[n]:=gE af;generalize p.ss[n]=s at hs;have oF:=hp.s2 s (fm hs);have aR:n < cn.length:=by rw [hI.lc];exact af
   have qa:n < dp.length:=by rw [hI.ld];exact af
   obtain ⟨r,hr⟩:=bm 1 q;have e5:xI (T q) q c q=xI (T q) q c (r+1):=by rw [←hr]
   have e6:CW (T q) q c q=CW (T q) q c (r+1):=by rw [←hr]
   refine aM (enc:=cq) (f:=tS) (fun a=>⟨by simp [cq],rfl⟩) rfl hs ?_;refine aqC (m:=q) (by omega) oF fun b hb=>ai (fun _=>mS hF (by omega) (by decide)) (fun g2=>?_)
   have Qa:=hb (by simpa using g2);have five:∀IL,SJ p.ss n s 0 cn IL→Wp (xI (T q) q c q a0 a1 (tP p) (cn.map aU) (IL.map aU) (us.map gq) a6 (p.ss.map cq) (ae (p.ss.map cq).length) (n:Int) (tS s) (n:Int)) (J dv K Q):=by
    intro IL hJ;rw [e5];refine aD amO ?_;refine Uf (m:=q) (by omega) oF fun nb=>?_
    have nM:(bq s).length≤100:=by
     unfold bq;split
     ·simp
     ·simpa using oF.2.2.2
    exact adh q hq hF hp kr hs (fun cn' afP Hr hI' FI=>ade q hq hF hp kr h c (n+1) cn' afP Hr (by omega) (by omega) hI' FI) us nN q 0 cn IL (by omega) (by omega) hJ
   have cY:dp[n]≤100000→∀(dF:n=0∨cn[n]? = some 1),Wp (CW (T q) q c q a0 a1 (tP p) (cn.map aU) (dp.map aU) (us.map gq) a6 (p.ss.map cq) (ae (p.ss.map cq).length) (n:Int) (tS s) (n:Int)) (J dv K Q):=by
    intro PJ dF;have bA:=hI.start hs Qa dF (gE qa);rw [e6];have up:s.kd=3∨s.kd=5→Wp (xI (T q) q c q a0 a1 (tP p) (cn.map aU) (bX (dp.map aU) (0+n) 0 (.int .i64 (ak ((dp[n]:Int)+1)))) (us.map gq) a6 (p.ss.map cq) (ae (p.ss.map cq).length) (n:Int) (tS s) (n:Int)) (J dv K Q):=by
     intro hk;rw [show ak ((dp[n]:Int)+1)=((dp[n]+1:Nat):Int) from fY,Tj qa];have:inc s=1:=by unfold inc;rw [aJ hk]
     rw [this] at bA;exact five _ bA
    refine aD amP (ai (fun g3=>?_) (fun g3=>ai (fun g4=>?_) (fun g4=>?_)))
    ·refine nZ gS rfl (gE qa) ?_;refine jd rfl (aE (bf (by simpa using qa)) (fU (b:=aU dp[n]) (by rw [dc,bO,gE qa];rfl) (aE rfl (iO (v:=((dp[n]:Int),())) rfl ?_))));exact up (.inl (by have:(s.kd==3)=true:=g3;simpa using this))
    ·refine nZ gS rfl (gE qa) ?_;refine jd rfl (aE (bf (by simpa using qa)) (fU (b:=aU dp[n]) (by rw [dc,bO,gE qa];rfl) (aE rfl (iO (v:=((dp[n]:Int),())) rfl ?_))));exact up (.inr (by have:(s.kd==5)=true:=g4;simpa using this))
    ·have h3:s.kd≠3:=by have:(s.kd==3)=false:=g3;simpa using this
     have h5:s.kd≠5:=by have:(s.kd==5)=false:=g4;simpa using this
     have:inc s=0:=by unfold inc;rw [az (by omega)]
     rw [this,gW,aeM] at bA;exact five _ bA
   have PJ:=cY (by have:=hI.b n dp[n] (gE qa);omega);refine ai (fun g3=>?_) (fun g3=>PJ (.inl ?_))
   ·refine nZ gS rfl (gE aR) (ai (fun _=>mS hF (by omega) (by decide)) (fun g4=>PJ (.inr ?_)));have:(((cn[n]:Nat):Int) != 1)=false:=g4;have:=U4.1 this;rw [gE aR,show cn[n]=1 by omega]
   ·have:¬ (n:Int) > 0:=kF g3;omega
  ·have eP:n=p.ss.length:=by
    have g2:¬ (n:Int) < ae (p.ss.map cq).length:=kF g1;rw [bJ,cf] at g2;omega
   rw [eP] at hI;exact aA (aC rfl (h hI.all))
theorem aqM (hm:21010≤m) (hF:og K Q) {b1 b2 b3:Bool} {r1 r2:RR} {ay:List PC} {i:Nat} {p:PC} (hi:ay[i]? = some p) (hp:gx p) (kr:p.ss.length≤80) (aq9:p.tm.length≤160) (h:SF p.ss→Wp (K ((0,0,0,()),())) Q) :
  Wp (Wv (T m) b1 r1 b2 r2 b3 (ay.map dK) (i:Int) K) Q:=by
 obtain ⟨m,rfl⟩:=cG hm;refine bH aho ?_;refine aM (enc:=dK) (f:=tP) (fun a=>⟨by simp [dK],rfl⟩) rfl hi ?_;have e1:∀n:Nat,List.replicate n [D.int .i64 0]=(List.replicate n 0).map aU:=by intro n;simp [aU]
 have e2:∀n:Nat,List.replicate n [D.bool false]=(List.replicate n false).map gq:=by intro n;simp [gq]
 have g:∀(n k:Nat),n≤1000→k≤8→(decide (n≤n)&&decide (n * k≤140737488355328)&&decide (n≤9223372036854775807)&&true&&(!n==0||n==0))=true:=by
  intro n k hn hk;have:n * k≤1000 * 8:=UZ hn hk;simp;omega
 have l1:(p.ss.map cq).length=p.ss.length:=cf _;have l2:(p.tm.map bz).length=p.tm.length:=cf _;have gs:=g p.ss.length 8 (by omega) (by omega);have gt:=g p.tm.length 2 (by omega) (by omega);rw [←l1] at gs;rw [←l2] at gt;refine aE gs (aE gs (aE gt ?_));show Wp (Ac (T m) m m (i:Int) (0,0,0,()) (tP p) (List.replicate (p.ss.map cq).length [D.int .i64 0]) (List.replicate (p.ss.map cq).length [D.int .i64 0]) (List.replicate (p.tm.map bz).length [D.bool false]) p.sb (p.ss.map cq) (ae (p.ss.map cq).length) 0) _;rw [e1,e2,l1,l2];have:=ade m (by omega) hF hp kr h (a0:=(i:Int)) (a1:=(0,0,0,())) (a6:=p.sb) m 0 _ _ (List.replicate p.tm.length false) (by omega) (by omega) (SI.zero p.ss) (by simp);rw [l1] at this;exact this
end
end
section
open Go Go.ax QQ
section
variable {m:Nat} {Q:V→List (List C)→Prop}
theorem ac7 (q:Nat) (ay:List PC) (hl:ay.length≤100) (s:BB) (x y:Tag×RR) {b:Bool} {K:iL.T→OR} (h1:Wp (K (-1,())) Q) (h2:∀i:Nat,i < ay.length→Wp (K ((i:Int),())) Q):∀(c i:Nat),ay.length - i < c→i≤ay.length→
  Wp (KV (T q) q c s (x,y,(.im b,ay.map dK),()) (ae (ay.map dK).length) (i:Int)) (J iL K Q)
 | 0,i,hc,_=>by omega
 | c+1,i,hc,hi=>by
  refine aD amj (ai (fun g1=>eY ?_) (fun g1=>aA (aC rfl h1)));have af:i < ay.length:=bM g1;refine aM (enc:=dK) (f:=fun a=>(a.nm,())) (fun a=>⟨by simp [dK],rfl⟩) rfl (gE af) (ai (fun g2=>aA (aC rfl (h2 i af))) (fun g2=>?_));rw [wI i];exact ac7 q ay hl s x y h1 h2 c (i+1) (by omega) (by omega)
theorem M5 (hm:110≤m) {b1 b2 b3:Bool} {r1 r2:RR} {ay:List PC} (hl:ay.length≤100) {s:BB} {K:iL.T→OR} (h1:Wp (K (-1,())) Q) (h2:∀i:Nat,i < ay.length→Wp (K ((i:Int),())) Q):Wp (Er (T m) b1 r1 b2 r2 b3 (ay.map dK) s K) Q:=by
 obtain ⟨m,rfl⟩:=cG hm;exact bH ahb (ac7 m ay hl s _ _ h1 h2 m 0 (by omega) (by omega))
theorem ad8 (hm:120≤m) {k:Int} {x:BB} (h:(k,x)∈iU) {K:bj.T→OR} (hK:Wp (K (true,())) Q):Wp (Od (T m) k x K) Q:=by
 obtain ⟨m,rfl⟩:=cG hm;refine bH ahg ?_;have hx:nc 1 [⟨[120],k,x,0⟩]:=⟨by simp,by simp,by simp,fun a ha=>by simp at ha;subst ha;exact ⟨show ([120]:BB)∈qn by decide,h,show (0:Nat) < 1 by decide⟩⟩
 have := ML m (by omega) false [] (l := [⟨1, [120], false, [⟨[120], k, x, 0⟩]⟩]) (by simp) (by simp) (by
   intro p hp
   simp at hp; subst hp
   exact .inr ⟨.inl rfl, show ([120] : BB) ∈ lR by decide, hx⟩)
 exact kB (x:=(true,())) this rfl (aA (aC rfl hK))
structure HD (p:PC):Prop where
 hn:gK p.nm=true
 hp:p.pm.length≤6
 hs:p.ss.length≤80
 ht:p.tm.length≤160
theorem adi (q:Nat) (hq:200≤q) {ay:List PC} (cr:ay.length≤100) {p:PC} (hp:gx p) {b1 b2 b3:Bool} {r1 r2:RR} {a0:Nat} {a2:au eN} {K:dv.T→OR} (hF:og K Q) {ox:Bool} (hg:ox=true→HD p) (h:HD p→Wp (K ((0,0,0,()),())) Q):∀(c i:Nat) (g:Bool) (o:List BB),p.pm.length - i < c→i≤p.pm.length→o.length=i→(g=true→ox=true)→
  Wp (uo (T q) q c (a0:Int) ((b1,r1),(b2,r2),(b3,ay.map dK),()) a2 (tP p) g (o.map aL) p.pb (p.pm.map eJ) (ae (p.pm.map eJ).length) (i:Int)) (J dv K Q)
 | 0,i,g,o,hc,_,_,_=>by omega
 | c+1,i,g,o,hc,hi,ho,jY=>by
  have h2:=hp.p1;refine aD ams (ai (fun g1=>?_) (fun g1=>ai (fun _=>mS hF (by omega) (by decide)) (fun g2=>?_)))
  ·have af:i < p.pm.length:=bM g1;have hx:=hp.p2 _ (bL af);have eK:∀g':Bool,(g'=true→ox=true)→Wp (gd ((o.map aL).length==(o.map aL).length&&true&&decide (((o.map aL).length+1) * 16≤140737488355328)) (uo (T q) q c (a0:Int) ((b1,r1),(b2,r2),(b3,ay.map dK),()) a2 (tP p) g' (o.map aL++whole ([[D.str []]].set 0 [D.str p.pm[i].1])) p.pb (p.pm.map eJ) (ae (p.pm.map eJ).length) (ak ((i:Int)+1)))) (J dv K Q):=by
    intro g' qb;refine aE (hC (by simp;omega) (by omega)) ?_;rw [wI i,dr];have:=adi q hq cr hp (b1:=b1) (b2:=b2) (b3:=b3) (r1:=r1) (r2:=r2) (a0:=a0) (a2:=a2) hF hg h c (i+1) g' (o++[p.pm[i].1]) (by omega) (by omega) (by simp;omega) qb;rw [eg] at this;exact this
   refine aM G2 rfl (gE af) (ai (fun g3=>?_) (fun g3=>?_))
   ·refine ie (m:=q) (by omega) (ai (fun g4=>ad8 (m:=q) (by omega) hx.1 ?_) (fun g4=>?_))
    ·exact eK true (fun _=>jY g3)
    ·exact eK false (fun h0=>by cases h0)
   ·exact eK false (fun h0=>by cases h0)
  ·have sB:ox=true:=jY (by simpa using g2);have ok:=hg sB;have fin:Wp (some ((.agg [(iC 0),(iC 0),(iC 0)]),[])) (J dv K Q):=aA (aC rfl (h ok));have fZ:Wp (gd (decide (0+(o.map aL).length≤(o.map aL).length)) (u3 (T q) false (aW (whole (o.map aL))) fun nr=>(bif (!nr.1) then (c46 (T q) 1501 (a0:Int) (-1) fun aX=>(some ((.agg [(iC aX.1.1),(iC aX.1.2.1),(iC aX.1.2.2.1)]),[]))) else (some ((.agg [(iC 0),(iC 0),(iC 0)]),[]))))) (J dv K Q):=by
    refine aE (by simp) ?_;rw [dr,qv];exact M0 (m:=q) (N:=10) (by omega) (by omega) (by omega) fun b=>ai (fun _=>mS hF (by omega) (by decide)) (fun _=>fin)
   exact M5 (m:=q) (by omega) cr (ai (fun _=>mS hF (by omega) (by decide)) (fun _=>fZ)) (fun j hj=>ai (fun _=>mS hF (by omega) (by decide)) (fun _=>fZ))
theorem apz (q:Nat) (hq:200≤q) {ay:List PC} (cr:ay.length≤100) {p:PC} (hp:gx p) {b1 b2 b3:Bool} {r1 r2:RR} {a0:Nat} {a2:au eN} {K:dv.T→OR} (hF:og K Q) {ox:Bool} (hg:ox=true→HD p) (h:HD p→Wp (K ((0,0,0,()),())) Q) :
  Wp (Gk (T q) q q (a0:Int) ((b1,r1),(b2,r2),(b3,ay.map dK),()) a2 (tP p) ox true [] p.pb (p.pm.map eJ) (ae (p.pm.map eJ).length) 0) (J dv K Q):=by
 have h2:=hp.p1;obtain ⟨r,hr⟩:=bm 1 q;have e0:Gk (T q) q q=Gk (T q) q (r+1):=by rw [←hr]
 rw [e0];refine aD amr (ai (fun g1=>?_) (fun g1=>ai (fun _=>mS hF (by omega) (by decide)) (fun g2=>?_)))
 ·have af:0 < p.pm.length:=bM g1;have hx:=hp.p2 _ (bL af);have eK:∀g':Bool,(g'=true→ox=true)→Wp (gd (true&&true&&true) (uo (T q) q r (a0:Int) ((b1,r1),(b2,r2),(b3,ay.map dK),()) a2 (tP p) g' [[.str p.pm[0].1]] p.pb (p.pm.map eJ) (ae (p.pm.map eJ).length) (ak (0+1)))) (J dv K Q):=by
   intro g' qb;refine aE rfl ?_;exact adi q hq cr hp hF hg h r 1 g' [p.pm[0].1] (by omega) (by omega) rfl qb
  refine aM G2 (i:=0) rfl (gE af) (ai (fun g3=>?_) (fun g3=>eK false (fun h0=>by cases h0)));exact ie (m:=q) (by omega) (ai (fun g4=>ad8 (m:=q) (by omega) hx.1 (eK true (fun _=>g3))) (fun g4=>eK false (fun h0=>by cases h0)))
 ·have ok:=hg (by simpa using g2);have fin:Wp (some ((.agg [(iC 0),(iC 0),(iC 0)]),[])) (J dv K Q):=aA (aC rfl (h ok));have fZ:Wp (u3 (T q) true [] fun nr=>(bif (!nr.1) then (c46 (T q) 1501 (a0:Int) (-1) fun aX=>(some ((.agg [(iC aX.1.1),(iC aX.1.2.1),(iC aX.1.2.2.1)]),[]))) else (some ((.agg [(iC 0),(iC 0),(iC 0)]),[])))) (J dv K Q):=
   M0 (m:=q) (l:=[]) (N:=10) (by omega) (by simp) (by omega) fun b=>ai (fun _=>mS hF (by omega) (by decide)) (fun _=>fin)
  exact M5 (m:=q) (by omega) cr (ai (fun _=>mS hF (by omega) (by decide)) (fun _=>fZ)) (fun j hj=>ai (fun _=>mS hF (by omega) (by decide)) (fun _=>fZ))
theorem aqN (hm:210≤m) {b1 b2 b3:Bool} {r1 r2:RR} {ay:List PC} (cr:ay.length≤100) {i:Nat} {p:PC} (hi:ay[i]? = some p) (hp:gx p) {K:dv.T→OR} (hF:og K Q) (h:HD p→Wp (K ((0,0,0,()),())) Q):Wp (Wu (T m) b1 r1 b2 r2 b3 (ay.map dK) (i:Int) K) Q:=by
 obtain ⟨m,rfl⟩:=cG hm;obtain ⟨r,hr⟩:=bm 1 m;have e1:vN (T m) m m=vN (T m) m (r+1):=by rw [←hr]
 have go:∀ox,(ox=true→HD p)→Wp (vN (T m) m m (i:Int) ((b1,r1),(b2,r2),(b3,ay.map dK),()) (0,0,0,()) (tP p) ox) (J dv K Q):=by
  intro ox hg;rw [e1];exact aD amt (apz m (by omega) cr hp hF hg h)
 have no:=go false (fun h0=>by cases h0);refine bH ahj ?_;refine aM (enc:=dK) (f:=tP) (fun a=>⟨by simp [dK],rfl⟩) rfl hi ?_;refine ie (m:=m) (by omega) (ai (fun g1=>ai (fun g2=>ai (fun g3=>ai (fun g4=>go _ fun g5=>⟨g1,?_,?_,?_⟩) (fun _=>no)) (fun _=>no)) (fun _=>no)) (fun _=>no))
 ·have:ae (p.pm.map eJ).length≤6:=rU g2;rw [bJ,cf] at this;omega
 ·have:ae (p.ss.map cq).length≤80:=rU g4;rw [bJ,cf] at this;omega
 ·have:ae (p.tm.map bz).length≤160:=rU g5;rw [bJ,cf] at this;omega
end
end
section
open Go Go.ax QQ
theorem tU {X Y:Type} {L:List X} {f:X→Y} {i:Nat} (g:decide ((i:Int) < ae (L.map f).length)=false):L.length≤i:=by
 have:=kF g;rw [bJ,cf] at this;omega
theorem w1 {i:Nat} (h:i≤100000000):ak ((i:Int)+1)=((i+1:Nat):Int):=fY
theorem apD (m:Nat) (b:Bool):T (m+60) 204 [.one (lC (.im b) 1 [])] []=some (.aq [],[]):=by kernel_rfl
theorem apE (m:Nat) (b:Bool) (s:BB):T (m+60) 204 [.one (lC (.im b) 1 [[.str s]])] []=some (.aq [],[]):=by kernel_rfl
section
variable {m:Nat} {Q:V→List (List C)→Prop}
theorem Un {L:List BB} {z:Int} {i:Nat} {a:BB} {K:au [.str]→OR} (hz:z=(i:Int)) (ha:L[i]? = some a) (h:Wp (K (a,())) Q):Wp (iR [.str] 0 1 (L.map aL) z K) Q:=
 aM rq hz ha h
abbrev cV (Cl:bW) (z:Int) (x1:au s9) (x2:au [.tg 6]) (x3:au [.tg 1]) (K:DA.T→OR):OR:=aG DA (Cl 203 [(.one (iC z)),pE,(.one (.ptr (.e 1) 0 0)),(.one (.ptr (.e 2) 0 0))] [(bx s9 x1),(bx [.tg 6] x2),(bx [.tg 1] x3)]) K
def VK (m:Nat) (z:Int) (b:Bool) (tm:List TM) (n:Nat):Prop:=∀(K:DA.T→OR) (Q:V→List (List C)→Prop) (y:au s9) (o:List BB),o.length+n≤10→(∀o':List BB,o'.length≤o.length+n→Wp (K ((),((),()),tB b tm,iY (o'.map aL),())) Q)→Wp (cV (T m) z y (tB b tm) (iY (o.map aL)) K) Q
theorem VK.mono {z:Int} {b:Bool} {tm:List TM} {n n':Nat} (h:VK m z b tm n) (hn:n≤n'):VK m z b tm n':=
 fun K Q y o ho hk=>h K Q y o (by omega) fun o' h'=>hk o' (by omega)
theorem aqo {b:Bool} {tm:List TM}:VK (m+1) (-1) b tm 0:=fun K Q y o ho hk=>
 bH Xq (gM rfl (aA (aC rfl (hk o (by omega)))))
theorem Vv {o:List BB} {Z:Tag→OR} (hX:o=[]→Wp (Z (.im true)) Q) (hY:o≠[]→Wp (Z .own) Q):Wp (zZ (nq (o.map aL)).1 Z) Q:=by
 cases o with
 | nil=>exact eY (hX rfl)
 | cons a t=>exact je (hY (by simp))
theorem ad3 {b:Bool} {tm:List TM} {t:TM} {i x y:Nat} (hi:tm[i]? = some t) (hl:VK m t.l b tm x) (hr:VK m t.r b tm y):VK (m+1) (i:Int) b tm (x+y+if t.kd=0 then 1 else 0):=by
 intro K Q yy o ho hk;have d:∀c,c < 6→∀(v:TM→Int),(∀a:TM,(bz a)[c]? = some (.int .i64 (v a)))→∀a:TM,c+1≤(bz a).length∧dS bY (List.take 1 (List.drop c (bz a)))=some (v a,()):=by
  intro c hc v hv a;refine ⟨by simp [bz];omega,?_⟩;have:List.take 1 (List.drop c (bz a))=[.int .i64 (v a)]:=by
   have g:c < (bz a).length:=by simp [bz];omega
   rw [tA g];have:=hv a;rw [gE g] at this;simp [uS this]
  rw [this];rfl
 refine bH Xq (eH (cg (by omega)) (eY ?_));refine aM (enc:=bz) (f:=fun t=>(t.l,())) (d 4 (by omega) _ fun a=>rfl) rfl hi ?_;refine hl _ _ _ o (by omega) fun o1 h1=>eY ?_
 refine aM (enc:=bz) (f:=fun t=>(t.r,())) (d 5 (by omega) _ fun a=>rfl) rfl hi ?_;refine hr _ _ _ o1 (by omega) fun o2 h2=>eY ?_
 refine aM (enc:=bz) (f:=fun t=>(t.kd,())) (d 0 (by omega) _ fun a=>rfl) rfl hi (ai (fun g=>?_) (fun g=>aA (aC rfl (hk o2 (by omega)))));have nI:t.kd=0:=by have:(t.kd==0)=true:=g;simpa using this
 rw [aJ nI] at hk;have fin:=hk (o2++[t.nm]) (by simp;omega);have dn:∀a:TM,1+1≤(bz a).length∧dS [.str] (List.take 1 (List.drop 1 (bz a)))=some (a.nm,()):=fun a=>⟨by simp [bz],rfl⟩
 refine Vv (o:=o2) (fun he=>?_) (fun he=>?_)
 ·subst he;exact aM (enc:=bz) (f:=fun t=>(t.nm,())) dn rfl hi (aE rfl (aA (by exact aC rfl fin)))
 ·refine aM (enc:=bz) (f:=fun t=>(t.nm,())) dn rfl hi (aE ?_ (aA ?_))
  ·have e:(iY (o2.map aL)).1.2.length=o2.length:=by cases o2<;>simp [iY,nq]
   rw [e];exact hC (by omega) (by omega)
  ·rw [dr];have e:iY ((o2++[t.nm]).map aL)=((.own,o2.map aL++[aL t.nm]),()):=by
    rw [eg];cases o2 with
    | nil=>exact absurd rfl he
    | cons a t=>rfl
   rw [e] at fin;exact aC rfl fin
theorem T8 {b:Bool} {tm:List TM} {t:TM} {i:Nat} (hi:tm[i]? = some t) (h:xL t):VK (m+2) (i:Int) b tm (if t.kd=0 then 1 else 0):=by
 have n:=aqo (m:=m) (b:=b) (tm:=tm);exact (ad3 (m:=m+1) (x:=0) (y:=0) hi (by rw [h.2.1];exact n) (by rw [h.2.2.1];exact n)).mono (by omega)
theorem aqp {b:Bool} {tm:List TM} (hT:jk tm) {i:Nat} (hi:i < tm.length):VK (m+3) (i:Int) b tm 1:=by
 have hg:tm[i]? = some tm[i]:=gE hi;rcases hT i _ hg with h | ⟨_,hk,a,c,x,y,h1,h2,_,_,_,h6,h7,h8,h9,hv⟩
 ·exact (T8 (m:=m+1) hg h).mono (by split<;>omega)
 ·refine (ad3 (m:=m+2) (x:=if x.kd=0 then 1 else 0) (y:=if y.kd=0 then 1 else 0) hg (by rw [h1];exact T8 h6 h8) (by rw [h2];exact T8 h7 h9)).mono ?_;have:tm[i].kd≠0:=by omega
  rw [az this];rcases hv with hv | hv<;>rw [az hv]<;>split<;>omega
theorem ad9 (hm:2≤m) {b:Bool} {l:List BB} (hl:l.length≤1) {K:dh.T→OR} (h:Wp (K ((b,l.map aL),())) Q):Wp (Wm (T m) b (l.map aL) K) Q:=by
 obtain ⟨m,rfl⟩:=cG hm;refine bH aht (gM (bf ?_) (aA (aC rfl h)));rw [bJ,cf];omega
theorem aen (hm:60≤m) {b:Bool} {l:List BB} (hl:l.length≤1) {K:acO.T→OR} (h:∀x,Wp (K x) Q):Wp (Wk (T m) b (l.map aL) K) Q:=by
 obtain ⟨m,rfl⟩:=bm 60 m;match l,hl with
 | [],_=>exact kB (apD m b) rfl (h _)
 | [s],_=>exact kB (apE m b s) rfl (h _)
 | a::c::t,hl=>simp at hl
theorem aet (hm:120≤m) {b:Bool} {tm:List TM} (hT:jk tm) {z:Int} {K:dh.T→OR} (h:∀b (l:List BB),l.length≤1→Wp (K ((b,l.map aL),())) Q):Wp (c156 (T m) b (tm.map bz) z K) Q:=by
 obtain ⟨m,rfl⟩:=bm 4 m;refine bH ahy (Ui (m:=m+3) (by omega) (ai (fun _=>aA (aC rfl (h true [] (by simp)))) (fun g=>?_)));obtain ⟨i,rfl,hi⟩:=aa4 (show sU (tm.map wD) z=true by simpa using g);rw [cf] at hi;refine aqp hT hi _ _ _ [] (by simp) fun o ho=>?_
 have hl:o.length≤1:=ho;refine Vv (o:=o) (fun he=>?_) (fun he=>?_)
 ·subst he;exact aen (m:=m+3) (l:=[]) (by omega) (by simp) fun _=>(ad9 (m:=m+3) (l:=[]) (by omega) (by simp) (aA (aC rfl (h _ [] (by simp)))))
 ·have e:aW (whole (iY (o.map aL)).1.2)=o.map aL:=by
   rw [dr,show (iY (o.map aL)).1.2=o.map aL by cases o<;>rfl];exact qv o
  refine aE (by simp) ?_;dsimp only [zB,zW,zO];rw [e];refine aen (m:=m+3) (by omega) hl fun _=>(aE (by simp) ?_)
  exact ad9 (m:=m+3) (by omega) hl (aA (aC rfl (h _ o hl)))
theorem VJ (q:Nat) (wb:Bool) (ws:List WR) (hl:ws.length≤100) {K:dh.T→OR} (h:∀b (l:List BB),l.length=ws.length→Wp (K ((b,l.map aL),())) Q):∀(c i:Nat) (o:List BB),ws.length - i < c→i≤ws.length→o.length=i→
  Wp (K0 (T q) q c (o.map aL) wb (ws.map cW) (ae (ws.map cW).length) (i:Int)) (J dh K Q)
 | 0,i,o,hc,_,_=>by omega
 | c+1,i,o,hc,hi,ho=>by
  refine aD amp (ai (fun g1=>?_) (fun g1=>?_))
  ·have af:=bM g1;refine aM Au rfl (gE af) (aE (hC (by simp;omega) (by omega)) ?_);rw [w1 (by omega),dr];have:=VJ q wb ws hl h c (i+1) (o++[ws[i].nm]) (by omega) (by omega) (by simp;omega);rw [eg] at this;exact this
  ·have:=tU g1;refine aE (by simp) ?_;rw [dr,qv];exact aA (aC rfl (h false o (by omega)))
theorem ad6 (hm:210≤m) {s:PS} (ho:mA s) {K:dh.T→OR} (h:∀b (l:List BB),l.length=(bq s).length→Wp (K ((b,l.map aL),())) Q) :
  Wp (yS (T m) s.kd s.nm s.pr s.lb s.pc s.tm s.gt (s.ag.map bF) s.ct (s.cs.map eC) s.wb (s.ws.map cW) s.nx K) Q:=by
 obtain ⟨m,rfl⟩:=cG hm;obtain ⟨r,hr⟩:=bm 1 m;have hl:=ho.2.2.2;have e1:K3 (T m) m m=K3 (T m) m (r+1):=by rw [←hr]
 have e0:KZ (T m) m m=KZ (T m) m (r+1):=by rw [←hr]
 have one:(s.kd=1∨s.kd=8)→Wp (some ((.one (lC (.im false) 1 [[(.str s.nm)]])),[])) (J dh K Q):=fun hk=>
  aA (aC rfl (h false [s.nm] (by unfold bq kO;rw [aJ (by rcases hk with e | e<;>rw [e]<;>rfl)];rfl)))
 refine bH ahe (ai (fun g=>one (.inl (by simpa using g))) (fun g1=>ai (fun g=>one (.inr (by simpa using g))) (fun g2=>ai (fun g=>?_) (fun g3=>?_))))
 ·have hk:s.kd=5:=by simpa using g
  have hn:(bq s).length=s.ws.length:=by unfold bq kO;rw [az (by rw [hk];decide)];simp
  rw [hn] at h;rw [e0];refine aD amo (ai (fun g1=>?_) (fun g1=>?_))
  ·have af:=bM (i:=0) g1;refine aM Au (i:=0) rfl (gE af) (aE rfl ?_);exact VJ m s.wb s.ws hl h r 1 [s.ws[0].nm] (by omega) (by omega) rfl
  ·have:=tU (i:=0) g1;exact aA (aC rfl (h true [] (by simp;omega)))
 ·rw [e1];refine aD amq (Uf (m:=m) (by omega) ho fun b=>?_);have nM:(bq s).length≤100:=by
   unfold bq;split
   ·simp
   ·simpa using hl
  refine aE ?_ ?_
  ·have:((bq s).map bF).length=(bq s).length:=by simp
   dsimp only;rw [this];simp;omega
  ·have e:∀n:Nat,aW (List.replicate n [D.str []])=(List.replicate n ([]:BB)).map aL:=by
    intro n;rw [show List.replicate n [D.str []]=(List.replicate n ([]:BB)).map aL by simp [aL],qv]
   rw [e];exact aA (aC rfl (h false _ (by simp)))
theorem ad7 (hm:120≤m) {b1 b2 b3:Bool} {r1 r2:RR} {ay:List PC} (hl:ay.length≤100) {s:BB} {z:Int} {K:bj.T→OR} (h:∀b,Wp (K (b,())) Q):Wp (c157 (T m) b1 r1 b2 r2 b3 (ay.map dK) s z K) Q:=by
 obtain ⟨m,rfl⟩:=cG hm;have f:∀b,Wp (some (.one (bC b),[])) (J bj K Q):=fun b=>aA (aC rfl (h b))
 refine bH ahf (M5 (m:=m) (by omega) hl (eH rfl (f false)) (fun i hi=>ai (fun _=>?_) (fun _=>f false)));exact aM acn rfl (gE hi) (f _)
end
end
section
open Go Go.ax QQ
abbrev GR (b1 b2 b3:Bool) (ps:List PR) (r2:RR) (ay:List PC):au cU:=((b1,ps.map cZ),(b2,r2),(b3,ay.map dK),())
section
variable {m:Nat} {Q:V→List (List C)→Prop} {b1 b2 b3:Bool} {ps:List PR} {r2:RR} {ay:List PC}
theorem adp (q:Nat) (hq:230≤q) {p:PR} (hp:p.rs.length≤100) {K:bj.T→OR} (h:∀b,Wp (K (b,())) Q) {c0:Nat} (o:List BB) (hl:o.length≤200):∀(c i:Nat),o.length - i < c→i≤o.length→
  Wp (La (T q) q c0 c (p.nm,(p.rt,p.rs.map aL),(p.pt,p.gR),()) (o.map aL) 0 (o.map aL).length (ae (o.map aL).length) (i:Int)) (J bj K Q)
 | 0,i,hc,_=>by omega
 | c+1,i,hc,hi=>by
  refine aD amC (ai (fun g1=>?_) (fun _=>aA (aC rfl (h true))));have af:=bM g1;refine jd rfl (aE (bf (by simpa using af)) (fU (b:=aL o[i]) (by rw [dc,bO,gE af];rfl) (aE rfl (iO (v:=(o[i],())) rfl ?_))));refine Uc (m:=q) (N:=200) (by omega) (by omega) (by omega) fun b=>ai (fun _=>aA (aC rfl (h false))) (fun _=>?_)
  rw [w1 (by omega)];exact adp q hq hp h o hl c (i+1) (by omega) (by omega)
theorem adq (q:Nat) (hq:230≤q) {p:PR} (hp:p.rs.length≤100) {K:bj.T→OR} (h:∀b,Wp (K (b,())) Q) {c0:Nat} {cb:Bool} (cs:List CR) (hl:cs.length≤100):∀(c i:Nat) (o:List BB),cs.length - i < c→i≤cs.length→o.length=i+1→
  Wp (Ld (T q) q c0 c (p.nm,(p.rt,p.rs.map aL),(p.pt,p.gR),()) (o.map aL) cb (cs.map eC) (ae (cs.map eC).length) (i:Int)) (J bj K Q)
 | 0,i,o,hc,_,_=>by omega
 | c+1,i,o,hc,hi,ho=>by
  have fl:Wp rF (J bj K Q):=aA (aC rfl (h false));refine aD amE (ai (fun g1=>?_) (fun _=>ai (fun _=>fl) (fun _=>aE (by simp) ?_)))
  ·have af:=bM g1;refine aM (enc:=eC) (f:=fun c=>(c.ro,c.pc,(c.gt,c.ag.map bF),())) (fun a=>⟨by simp [eC],rfl⟩) rfl (gE af) (aE (hC (by simp;omega) (by omega)) ?_);rw [w1 (by omega),dr];have:=adq q hq hp h (c0:=c0) (cb:=cb) cs hl c (i+1) (o++[cs[i].ro]) (by omega) (by omega) (by simp;omega);rw [eg] at this;exact this
  ·rw [dr,qv];obtain ⟨r,hr⟩:=bm 1 q;have e2:Lb (T q) q c0 q=Lb (T q) q c0 (r+1):=by rw [←hr]
   refine M0 (m:=q) (N:=200) (by omega) (by omega) (by omega) fun b=>ai (fun _=>fl) (fun _=>?_)
   rw [e2];exact aD amD (adp q hq hp h o (by omega) q 0 (by omega) (by omega))
theorem ado (q:Nat) (hq:230≤q) (e8:ps.length≤100) (fF:∀p∈ps,p.rs.length≤100) {s:PS} (ho:mA s) {bb:Bool} {K:bj.T→OR} (h:∀b,Wp (K (b,())) Q):∀(c i:Nat),ps.length - i < c→i≤ps.length→
  Wp (K9 (T q) q c (tS s) bb (ps.map cZ) (ae (ps.map cZ).length) (i:Int)) (J bj K Q)
 | 0,i,hc,_=>by omega
 | c+1,i,hc,hi=>by
  refine aD amB (ai (fun g1=>?_) (fun _=>aA (aC rfl (h false))));have af:=bM g1;refine aM SV rfl (gE af) (ai (fun _=>?_) (fun _=>?_))
  ·rw [w1 (by omega)];exact ado q hq e8 fF ho h c (i+1) (by omega) (by omega)
  ·exact adq q hq (fF _ (bL af)) h s.cs ho.2.1 q 0 [s.pr] (by have:=ho.2.1;omega) (by omega) rfl
theorem aqO (hm:240≤m) (e8:ps.length≤100) (fF:∀p∈ps,p.rs.length≤100) {r3:RR} {s:PS} (ho:mA s) {K:bj.T→OR} (h:∀b,Wp (K (b,())) Q) :
  Wp (Wa (T m) b1 (ps.map cZ) b2 r2 b3 r3 s.kd s.nm s.pr s.lb s.pc s.tm s.gt (s.ag.map bF) s.ct (s.cs.map eC) s.wb (s.ws.map cW) s.nx K) Q:=by
 obtain ⟨m,rfl⟩:=cG hm;exact bH ahm (ado m (by omega) e8 fF ho h m 0 (by omega) (by omega))
variable {K:iL.T→OR}
theorem adx (q:Nat) (hq:240≤q) (e8:ps.length≤100) (fF:∀p∈ps,p.rs.length≤100) (gI:ay.length≤100) {s:PS} (ho:mA s) (h:∀e,Wp (K (e,())) Q):∀(c i:Nat),s.cs.length - i < c→i≤s.cs.length→
  Wp (Lh (T q) q c (GR b1 b2 b3 ps r2 ay) (tS s) s.ct (s.cs.map eC) (ae (s.cs.map eC).length) (i:Int)) (J iL K Q)
 | 0,i,hc,_=>by omega
 | c+1,i,hc,hi=>by
  have hl:=ho.2.1;have an:∀z,Wp (some ((.one (iC z)),[])) (J iL K Q):=fun z=>aA (aC rfl (h z))
  refine aD amQ (ai (fun g1=>?_) (fun _=>ai (fun _=>aqO (m:=q) (by omega) e8 fF ho fun b=>ai (fun _=>an _) (fun _=>an _)) (fun _=>an _)));have af:=bM g1;refine aM (enc:=eC) (f:=fun c=>(c.ro,c.pc,(c.gt,c.ag.map bF),())) (fun a=>⟨by simp [eC],rfl⟩) rfl (gE af) ?_;refine ad7 (m:=q) (by omega) gI fun b=>ai (fun _=>an _) (fun _=>?_)
  rw [w1 (by omega)];exact adx q hq e8 fF gI ho h c (i+1) (by omega) (by omega)
theorem apN (q:Nat) (hq:240≤q) (e8:ps.length≤100) (fF:∀p∈ps,p.rs.length≤100) (gI:ay.length≤100) {s:PS} (ho:mA s) (h:∀e,Wp (K (e,())) Q) :
  Wp (CY (T q) q q (GR b1 b2 b3 ps r2 ay) (tS s)) (J iL K Q):=by
 obtain ⟨r,hr⟩:=bm 1 q;have e1:CY (T q) q q=CY (T q) q (r+1):=by rw [←hr]
 rw [e1];exact aD amR (adx q hq e8 fF gI ho h q 0 (by have:=ho.2.1;omega) (by omega))
theorem ady (q:Nat) (hq:240≤q) (e8:ps.length≤100) (fF:∀p∈ps,p.rs.length≤100) (gI:ay.length≤100) {s:PS} (ho:mA s) (h:∀e,Wp (K (e,())) Q) {bb:Bool} {bd:List BB} (hb:bd.length≤200) {lb:Bool} (l:List BB) (hl:l.length≤100):∀(c i:Nat),l.length - i < c→i≤l.length→
  Wp (Ad (T q) q c bb (bd.map aL) (GR b1 b2 b3 ps r2 ay) (tS s) lb (l.map aL) (ae (l.map aL).length) (i:Int)) (J iL K Q)
 | 0,i,hc,_=>by omega
 | c+1,i,hc,hi=>by
  have an:∀z,Wp (some ((.one (iC z)),[])) (J iL K Q):=fun z=>aA (aC rfl (h z))
  have go:=apN q hq e8 fF gI (b1:=b1) (b2:=b2) (b3:=b3) (r2:=r2) ho h;refine aD amS (ai (fun g1=>?_) (fun _=>ai (fun _=>ad7 (m:=q) (by omega) gI fun b=>ai (fun _=>an _) (fun _=>go)) (fun _=>go)));have af:=bM g1;rw [w1 (by omega)];have nx:=ady q hq e8 fF gI ho h (bb:=bb) hb (lb:=lb) l hl c (i+1) (by omega) (by omega);exact Un rfl (gE af) (ai (fun _=>Uc (m:=q) (N:=200) (by omega) hb (by omega) fun b=>ai (fun _=>an _) (fun _=>nx)) (fun _=>nx))
theorem adD (q:Nat) (hq:240≤q) (e8:ps.length≤100) (fF:∀p∈ps,p.rs.length≤100) (gI:ay.length≤100) {s:PS} (ho:mA s) (h:∀e,Wp (K (e,())) Q) {bb:Bool} {bd:List BB} (hb:bd.length≤200) :
  Wp (yS (T q) s.kd s.nm s.pr s.lb s.pc s.tm s.gt (s.ag.map bF) s.ct (s.cs.map eC) s.wb (s.ws.map cW) s.nx fun aP=>Ad (T q) q q bb (bd.map aL) (GR b1 b2 b3 ps r2 ay) (tS s) aP.1.1 aP.1.2 (ae aP.1.2.length) 0) (J iL K Q):=by
 have nM:(bq s).length≤100:=by
  unfold bq;split
  ·simp
  ·simpa using ho.2.2.2
 exact ad6 (m:=q) (by omega) ho fun b l hl=>ady q hq e8 fF gI ho h hb l (by omega) q 0 (by omega) (by omega)
theorem adz (q:Nat) (hq:240≤q) (e8:ps.length≤100) (fF:∀p∈ps,p.rs.length≤100) (gI:ay.length≤100) {s:PS} (ho:mA s) (h:∀e,Wp (K (e,())) Q) {bb:Bool} {bd:List BB} (hb:bd.length≤200) (o:List BB) (hl:o.length≤30000):∀(c i:Nat),o.length - i < c→i≤o.length→
  Wp (Li (T q) q c bb (bd.map aL) (GR b1 b2 b3 ps r2 ay) (tS s) (o.map aL) 0 (o.map aL).length (ae (o.map aL).length) (i:Int)) (J iL K Q)
 | 0,i,hc,_=>by omega
 | c+1,i,hc,hi=>by
  refine aD amT (ai (fun g1=>?_) (fun _=>adD q hq e8 fF gI ho h hb));have af:=bM g1;refine jd rfl (aE (bf (by simpa using af)) (fU (b:=aL o[i]) (by rw [dc,bO,gE af];rfl) (aE rfl (iO (v:=(o[i],())) rfl ?_))));refine Uc (m:=q) (N:=200) (by omega) hb (by omega) fun b=>ai (fun _=>aA (aC rfl (h _))) (fun _=>?_)
  rw [w1 (by omega)];exact adz q hq e8 fF gI ho h hb o hl c (i+1) (by omega) (by omega)
theorem adA (q:Nat) (hq:30010≤q) (e8:ps.length≤100) (fF:∀p∈ps,p.rs.length≤100) (gI:ay.length≤100) {s:PS} (ho:mA s) (h:∀e,Wp (K (e,())) Q) {bb:Bool} {bd:List BB} (hb:bd.length≤200) (o:List BB) (hl:o.length≤30000) {x:au fu} :
  Wp (pD (T q) q q bb (bd.map aL) (GR b1 b2 b3 ps r2 ay) x (tS s) (o.map aL)) (J iL K Q):=by
 obtain ⟨r,hr⟩:=bm 1 q;have e1:pD (T q) q q=pD (T q) q (r+1):=by rw [←hr]
 rw [e1];exact aD amV (adz q (by omega) e8 fF gI ho h hb o hl q 0 (by omega) (by omega))
theorem adB (q:Nat) (hq:30010≤q) (e8:ps.length≤100) (fF:∀p∈ps,p.rs.length≤100) (gI:ay.length≤100) {s:PS} (ho:mA s) (h:∀e,Wp (K (e,())) Q) {bb:Bool} {bd:List BB} (hb:bd.length≤200) {p:PC} (hT:jk p.tm) {lb:Bool} (l:List Int) (hl:l.length≤20000):∀(c i:Nat) (o:List BB),l.length - i < c→i≤l.length→o.length≤i→
  Wp (Ll (T q) q c bb (bd.map aL) (GR b1 b2 b3 ps r2 ay) (tP p) (tS s) (o.map aL) lb (l.map bF) (ae (l.map bF).length) (i:Int)) (J iL K Q)
 | 0,i,o,hc,_,_=>by omega
 | c+1,i,o,hc,hi,hol=>by
  have go:∀o:List BB,o.length≤30000→Wp (pD (T q) q q bb (bd.map aL) (GR b1 b2 b3 ps r2 ay) (tP p) (tS s) (o.map aL)) (J iL K Q):=fun o hl=>adA q hq e8 fF gI ho h hb o hl
  have more:Wp (gd ((o.map aL).length==(o.map aL).length&&true&&decide (((o.map aL).length+1) * 16≤140737488355328)) (pD (T q) q q bb (bd.map aL) (GR b1 b2 b3 ps r2 ay) (tP p) (tS s) (o.map aL++whole ([[D.str []]].set 0 [D.str s.nm])))) (J iL K Q):=by
   refine aE (hC (by simp;omega) (by omega)) ?_;rw [dr];have:=go (o++[s.nm]) (by simp;omega);rw [eg] at this;exact this
  refine aD amY (ai (fun g1=>?_) (fun _=>ai (fun _=>more) (fun _=>ai (fun _=>more) (fun _=>ai (fun _=>more) (fun _=>go o (by omega))))));have af:=bM g1;refine aM oQ rfl (gE af) ?_;refine aet (m:=q) (by omega) hT fun b l' mc=>aE ?_ ?_
  ·dsimp only;rw [DP];simp;omega
  ·dsimp only;rw [w1 (by omega),←eg];exact adB q hq e8 fF gI ho h hb hT l hl c (i+1) (o++l') (by omega) (by omega) (by simp;omega)
theorem adC (q:Nat) (hq:30010≤q) (e8:ps.length≤100) (fF:∀p∈ps,p.rs.length≤100) (gI:ay.length≤100) {s:PS} (ho:mA s) (h:∀e,Wp (K (e,())) Q) {bb:Bool} {bd:List BB} (hb:bd.length≤200) {p:PC} (hT:jk p.tm) {lb:Bool} (l:List Int) (hl:l.length≤20000):∀(c i:Nat),l.length - i < c→i≤l.length→
  Wp (Lk (T q) q c bb (bd.map aL) (GR b1 b2 b3 ps r2 ay) (tP p) (tS s) true [] lb (l.map bF) (ae (l.map bF).length) (i:Int)) (J iL K Q)
 | 0,i,hc,_=>by omega
 | c+1,i,hc,hi=>by
  obtain ⟨r,hr⟩:=bm 1 q;have e1:Lj (T q) q q=Lj (T q) q (r+1):=by rw [←hr]
  have e2:Gp (T q) q q=Gp (T q) q (r+1):=by rw [←hr]
  have go:Wp (pD (T q) q q bb (bd.map aL) (GR b1 b2 b3 ps r2 ay) (tP p) (tS s) [[.str s.nm]]) (J iL K Q):=adA q hq e8 fF gI ho h hb [s.nm] (by simp);refine aD amX (ai (fun g1=>?_) (fun _=>ai (fun _=>aE rfl go) (fun _=>ai (fun _=>aE rfl go) (fun _=>ai (fun _=>aE rfl go) (fun _=>?_)))))
  ·have af:=bM g1;refine aM oQ rfl (gE af) ?_;refine aet (m:=q) (by omega) hT fun b l' mc=>aE ?_ ?_
   ·dsimp only;rw [DP];simp;omega
   ·dsimp only;rw [w1 (by omega)];refine ai (fun g=>?_) (fun g=>?_)
    ·rw [show l'.map aL=[] by simpa using g];exact adC q hq e8 fF gI ho h hb hT l hl c (i+1) (by omega) (by omega)
    ·exact adB q hq e8 fF gI ho h hb hT l hl c (i+1) l' (by omega) (by omega) (by omega)
  ·rw [e1];refine aD amW ?_;rw [e2];exact aD amU (eH rfl (adD q (by omega) e8 fF gI ho h hb))
theorem aqP (hm:30020≤m) (e8:ps.length≤100) (fF:∀p∈ps,p.rs.length≤100) (gI:ay.length≤100) {s:PS} (ho:mA s) (h:∀e,Wp (K (e,())) Q) {bb:Bool} {bd:List BB} (hb:bd.length≤200) {p:PC} (hT:jk p.tm) :
  Wp (Io (T m) b1 (ps.map cZ) b2 r2 b3 (ay.map dK) p.nm p.pb (p.pm.map eJ) p.tb (p.tm.map bz) p.sb (p.ss.map cq) s.kd s.nm s.pr s.lb s.pc s.tm s.gt (s.ag.map bF) s.ct (s.cs.map eC) s.wb (s.ws.map cW) s.nx bb (bd.map aL) K) Q:=by
 obtain ⟨m,rfl⟩:=cG hm;exact bH ahp (aeq (m:=m) (by omega) ho fun b l hl=>adC m (by omega) e8 fF gI ho h hb hT l hl m 0 (by omega) (by omega))
end
end
section
open Go Go.ax QQ
def vD (o:Option (List BB)):List BB:=o.getD []
def gD (o:Option (List BB)):Tag:=match o with | none=>.im true | some _=>.own
def cD (o:Option (List BB)):List D:=[.sl (gD o) 1 ((vD o).map aL)]
theorem Ti {l:List (Option (List BB))} {i:Nat} (h:i < l.length) {v:List BB}:bX (l.map cD) (0+i) 0 (.sl .own 1 (v.map aL))=(l.set i (some v)).map cD:=by
 have:(l.map cD).getD (0+i) []=cD l[i]:=by simp [List.getD,h]
 unfold bX;rw [this,dc,AY];rfl
theorem acP {l:List (Option (List BB))} {i:Nat} (h:i < l.length) {v:List BB}:bX (bX (l.map cD) (0+i) 0 .dead) (0+i) 0 (.sl .own 1 (v.map aL))=(l.set i (some v)).map cD:=by
 rw [←Ti h];unfold bX;have e:(((l.map cD).set (0+i) (((l.map cD).getD (0+i) []).set 0 .dead)).getD (0+i) [])=((l.map cD).getD (0+i) []).set 0 .dead:=by
  simp [List.getD,h]
 rw [e,UW,UW]
def SB (l:List (Option (List BB))) (n:Nat):Prop:=l.length=n∧∀k o,l[k]? = some o→(vD o).length≤10+k
theorem SB.set {l:List (Option (List BB))} {n k:Nat} {v:List BB} (h:SB l n) (hv:v.length≤10+k):SB (l.set k (some v)) n:=by
 refine ⟨by simpa using h.1,fun j o hj=>?_⟩;by_cases e:k=j
 ·subst e;by_cases hk:k < l.length
  ·rw [yC hk] at hj;cases hj;exact hv
  ·rw [pR (by simp;omega)] at hj;cases hj
 ·rw [qJ e] at hj;exact h.2 j o hj
theorem aiG (l:List BB):sj (l.map aL)=true:=by
 simp [sj,aL,D.flat]
section
variable {m:Nat} {Q:V→List (List C)→Prop} {b1 b2 b3:Bool} {ps:List PR} {r2:RR} {ay:List PC} {K:dv.T→OR}
theorem Bn {l:List (Option (List BB))} {i:Nat} (h:i < l.length):(l.map cD)[0+i]? = some (cD l[i]):=by
 rw [dc,bO,gE h];rfl
theorem WV {l:List (Option (List BB))} {i:Nat} (h:i < l.length) {z:Int} (hz:z=(i:Int)) {F:Bool→List D→au [.sl 1]→OR} {G:Nat→au [.sl 1]→OR} (hF:gD l[i] = .im true→vD l[i]=[]→Wp (F true (cD l[i]) ((.im true,[]),())) Q) (hG:gD l[i] = .own→Wp (G i ((.own,(vD l[i]).map aL),())) Q) :
  Wp (aH (cp z) fun rj=>gd (decide (rj < (l.map cD).length)) (aH ((l.map cD)[0+rj]?) fun oO=>gd (decide (0+1≤oO.length)) (cF [.sl 1] (List.take 1 (List.drop 0 oO)) fun fI=>zZ fI.1.1 fun t38=>zM t38 (fun b=>F b oO fI) (G rj fI)))) Q:=by
 refine jd hz (aE (bf (by simpa using h)) (fU (Bn h) (aE rfl (iO (v:=((gD l[i],(vD l[i]).map aL),())) rfl ?_))));cases hx:l[i] with
 | none=>rw [hx] at hF;exact eY (hF rfl rfl)
 | some o=>rw [hx] at hG;exact je (hG rfl)
theorem Bo {l:List (Option (List BB))} {i:Nat} (h:i < l.length) (ho:gD l[i] = .own) {F:RR→OR} (hF:Wp (F ((vD l[i]).map aL)) Q) :
  Wp (aH ((l.map cD)[0+i]?) fun Sb=>aH (Sb[0]?) fun Sc=>iZ Sc fun Uv Mi=>gd (Uv==1) (F Mi)) Q:=
 fU (Bn h) (fU (b:=.sl .own 1 ((vD l[i]).map aL)) (by rw [←ho];rfl) (Uo (aE rfl hF)))
theorem WW {l:List (Option (List BB))} {i:Nat} (h:i < l.length) {z:Int} (hz:z=(i:Int)) {F:Nat→OR} (hF:Wp (F i) Q) :
  Wp (aH (cp z) fun vU=>gd (decide (vU < (l.map cD).length)) (aH ((l.map cD)[0+vU]?) fun Ai=>gd (decide (0+1≤Ai.length)&&true) (cF [.any] (List.take 1 (List.drop 0 Ai)) fun v49=>F vU))) Q:=
 jd hz (aE (bf (by simpa using h)) (fU (Bn h) (aE rfl (iO (v:=(.sl (gD l[i]) 1 ((vD l[i]).map aL),())) rfl hF))))
theorem WT {l:List (Option (List BB))} {i:Nat} (h:i < l.length):(bX (l.map cD) (0+i) 0 D.dead)[0+i]? = some [.dead]:=by
 have:(l.map cD).getD (0+i) []=cD l[i]:=by simp [List.getD,h]
 unfold bX;rw [this];simp [h,cD]
variable (e8:ps.length≤100) (fF:∀p∈ps,p.rs.length≤100) (gI:ay.length≤100) {p:PC} (hp:gx p) (kr:p.ss.length≤80) (xe:SF p.ss) (hF:og K Q) (h:Wp (K ((0,0,0,()),())) Q) {a0:Nat} {a2:au eN}
include hp kr xe hF h in
theorem ac1 (q:Nat) (hq:30030≤q) {c0 n:Nat} {s:PS} (hs:p.ss[n]? = some s) {mb nb:Bool} {mr:List BB} (hm:mr.length=(bq s).length)
  (hZ:∀l,SB l p.ss.length→Wp (Gm (T q) q c0 (a0:Int) (GR b1 b2 b3 ps r2 ay) a2 (tP p) (l.map cD) p.sb (p.ss.map cq) (ae (p.ss.map cq).length) ((n+1:Nat):Int)) (J dv K Q)):∀(c j:Nat) (l:List (Option (List BB))),(bq s).length - j < c→j≤(bq s).length→SB l p.ss.length→
  Wp (xH (T q) q c0 c (a0:Int) (GR b1 b2 b3 ps r2 ay) a2 (tP p) (l.map cD) p.sb (p.ss.map cq) (ae (p.ss.map cq).length) (n:Int) (n:Int) mb (mr.map aL) nb ((bq s).map bF) (ae ((bq s).map bF).length) (j:Int)) (J dv K Q)
 | 0,j,l,hc,_,_=>by omega
 | c+1,j,l,hc,hj,hl=>by
  have hn:n < p.ss.length:=(cB.1 hs).1;have nM:(bq s).length≤100:=by
   unfold bq;split
   ·simp
   ·simpa using (hp.s2 s (fm hs)).2.2.2
  refine aD amG (ai (fun g1=>?_) (fun _=>?_))
  ·have af:=bM g1;have hg:(bq s)[j]? = some (bq s)[j]:=gE af;obtain ⟨k,hk,uc,ku⟩:=xe.e n s _ hs (fm hg);have nl:n < l.length:=by rw [hl.1];exact hn
   have kl:k < l.length:=by rw [hl.1];exact ku
   obtain ⟨r,hr⟩:=bm 1 q;have e2:CV (T q) q c0 c q=CV (T q) q c0 c (r+1):=by rw [←hr]
   have Cp:=hl.2 n _ (gE nl);generalize hv:vD l[n]=v at Cp;refine aM oQ rfl hg ?_;dsimp only;rw [hk];have go:Wp (CV (T q) q c0 c q (a0:Int) (GR b1 b2 b3 ps r2 ay) a2 (tP p) (bX (l.map cD) (0+k) 0 (.sl .own 1 (v.map aL))) p.sb (p.ss.map cq) (ae (p.ss.map cq).length) (n:Int) (n:Int) mb (mr.map aL) nb ((bq s).map bF) (ae ((bq s).map bF).length) (j:Int) (j:Int) (k:Int)) (J dv K Q):=by
    rw [Ti kl,e2];have dX:SB (l.set k (some v)) p.ss.length:=hl.set (by omega);have nx:∀l,SB l p.ss.length→Wp (xH (T q) q c0 c (a0:Int) (GR b1 b2 b3 ps r2 ay) a2 (tP p) (l.map cD) p.sb (p.ss.map cq) (ae (p.ss.map cq).length) (n:Int) (n:Int) mb (mr.map aL) nb ((bq s).map bF) (ae ((bq s).map bF).length) (ak ((j:Int)+1))) (J dv K Q):=by
     intro l hl;rw [w1 (by omega)];exact ac1 q hq hs hm hZ c (j+1) l (by omega) (by omega) hl
    have FU:k < (l.set k (some v)).length:=by simpa using kl
    have Qd:(l.set k (some v))[k]=some v:=by simp
    have Y1:mr[j]? = some (mr[j]'(by omega)):=gE (by omega);refine aD amH (Un rfl Y1 (ai (fun _=>?_) (fun _=>nx _ dX)));have own:gD (l.set k (some v))[k] = .own:=by rw [Qd];rfl
    have val:vD (l.set k (some v))[k]=v:=by rw [Qd];rfl
    refine jd rfl (aE (bf (by simpa using kl)) (fU (Bn FU) (aE rfl (iO (v:=(v.map aL,())) (by rw [Qd];rfl) (Un rfl Y1 (Bo FU own (aE ?_ (jd rfl (aE (bf (by simpa using kl)) (aE (Nat.beq_refl _) (Bo FU own (fU (WT FU) (aE rfl (iO (v:=(.dead,())) rfl ?_))))))))))))))
    ·rw [val];exact hC (by simp;omega) (by omega)
    ·rw [val,dr];have:v.map aL++[[D.str []]].set 0 [D.str (mr[j]'(by omega))]=(v++[mr[j]'(by omega)]).map aL:=by rw [eg];rfl
     dsimp only;rw [this,acP FU];exact nx _ (dX.set (by simp;omega))
   refine WV nl rfl (fun g g'=>?_) (fun g=>Bo nl g ?_)
   ·rw [g'] at hv;subst hv;exact aE rfl (WW kl rfl go)
   ·have e:List.take ((vD l[n]).map aL).length (List.drop 0 ((vD l[n]).map aL))=v.map aL:=by rw [hv,AW,AZ]
    dsimp only;rw [e];refine aE ?_ (aE ?_ (WW kl rfl go))
    ·rw [aiG];simp
    ·rw [DP];simp;omega
  ·rw [w1 (by omega)];exact hZ l hl
include e8 fF gI hp kr xe hF h in
theorem ac0 (q:Nat) (hq:30030≤q):∀(c n:Nat) (l:List (Option (List BB))),p.ss.length - n < c→n≤p.ss.length→SB l p.ss.length→
  Wp (Gm (T q) q c (a0:Int) (GR b1 b2 b3 ps r2 ay) a2 (tP p) (l.map cD) p.sb (p.ss.map cq) (ae (p.ss.map cq).length) (n:Int)) (J dv K Q)
 | 0,n,l,hc,_,_=>by omega
 | c+1,n,l,hc,hn,hl=>by
  refine aD amF (ai (fun g1=>?_) (fun _=>aA (aC rfl h)));have af:=bM g1;have hs:p.ss[n]? = some p.ss[n]:=gE af;generalize p.ss[n]=s at hs;have ho:=hp.s2 s (fm hs);have nl:n < l.length:=by rw [hl.1];exact af
  have Cp:=hl.2 n _ (gE nl);generalize hv:vD l[n]=v at Cp;refine aM (enc:=cq) (f:=tS) (fun a=>⟨by simp [cq],rfl⟩) rfl hs ?_;have go:∀bb,Wp (Io (T q) b1 (ps.map cZ) b2 r2 b3 (ay.map dK) p.nm p.pb (p.pm.map eJ) p.tb (p.tm.map bz) p.sb (p.ss.map cq) s.kd s.nm s.pr s.lb s.pc s.tm s.gt (s.ag.map bF) s.ct (s.cs.map eC) s.wb (s.ws.map cW) s.nx bb (v.map aL) fun v28=>(bif (v28.1 != 0) then (c46 (T q) v28.1 (a0:Int) (n:Int) fun jc=>(some ((.agg [(iC jc.1.1),(iC jc.1.2.1),(iC jc.1.2.2.1)]),[]))) else (yS (T q) s.kd s.nm s.pr s.lb s.pc s.tm s.gt (s.ag.map bF) s.ct (s.cs.map eC) s.wb (s.ws.map cW) s.nx fun v30=>(Bk (T q) s.kd s.nm s.pr s.lb s.pc s.tm s.gt (s.ag.map bF) s.ct (s.cs.map eC) s.wb (s.ws.map cW) s.nx fun v31=>(xH (T q) q c q (a0:Int) (GR b1 b2 b3 ps r2 ay) a2 (tP p) (l.map cD) p.sb (p.ss.map cq) (ae (p.ss.map cq).length) (n:Int) (n:Int) v30.1.1 v30.1.2 v31.1.1 v31.1.2 (ae v31.1.2.length) 0))))) (J dv K Q):=by
   intro bb;refine aqP (m:=q) (by omega) e8 fF gI ho (fun e=>?_) (by omega) hp.t2;refine ai (fun g=>mS hF (by omega) (D2.1 g)) (fun _=>ad6 (m:=q) (by omega) ho fun mb mr hm=>Uf (m:=q) (by omega) ho fun nb=>?_);have nM:(bq s).length≤100:=by
    unfold bq;split
    ·simp
    ·simpa using ho.2.2.2
   exact ac1 hp kr xe hF h q hq hs hm (fun l hl=>ac0 q hq c (n+1) l (by omega) (by omega) hl) q 0 l (by omega) (by omega) hl
  refine WV nl rfl (fun g g'=>?_) (fun g=>Bo nl g (aE (by simp) ?_))
  ·rw [g'] at hv;subst hv;exact go true
  ·have e:aW (List.take ((vD l[n]).map aL).length (List.drop 0 ((vD l[n]).map aL)))=v.map aL:=by rw [hv,AW,AZ,qv]
   dsimp only;rw [e];exact go false
include e8 fF gI hp kr xe hF h in
theorem ac2 (q:Nat) (hq:30030≤q):∀(c i:Nat) (l:List (Option (List BB))),p.pm.length - i < c→i≤p.pm.length→SB l p.ss.length→(∀o,l[0]? = some o→(vD o).length≤i)→
  Wp (Ab (T q) q c (a0:Int) (GR b1 b2 b3 ps r2 ay) a2 (tP p) (l.map cD) p.pb (p.pm.map eJ) (ae (p.pm.map eJ).length) (i:Int)) (J dv K Q)
 | 0,i,l,hc,_,_,_=>by omega
 | c+1,i,l,hc,hi,hl,h0=>by
  refine aD amI (ai (fun g1=>?_) (fun _=>ac0 e8 fF gI hp kr xe hF h q hq q 0 l (by omega) (by omega) hl));have af:=bM g1;have h2:=hp.p1;have zl:0 < l.length:=by rw [hl.1];exact hp.s0
  have z1:decide (Int.toNat 0 < (l.map cD).length)=true:=bf (by simpa using zl);have Cp:=h0 _ (gE zl);have nx:∀v:List BB,v.length≤i+1→Wp (Ab (T q) q c (a0:Int) (GR b1 b2 b3 ps r2 ay) a2 (tP p) ((l.set 0 (some v)).map cD) p.pb (p.pm.map eJ) (ae (p.pm.map eJ).length) (ak ((i:Int)+1))) (J dv K Q):=by
   intro v hv;rw [w1 (by omega)];refine ac2 q hq c (i+1) _ (by omega) (by omega) (hl.set (by omega)) (fun o ho=>?_);rw [yC zl] at ho;cases ho;exact hv
  refine aM G2 rfl (gE af) ?_;refine aE z1 (fU (Bn zl) (aE rfl (iO (v:=((gD l[0],(vD l[0]).map aL),())) rfl ?_)));cases hx:gD l[0] with
  | im b=>
   have hb:b=true:=by
    cases hy:l[0] with
    | none=>rw [hy] at hx;cases hx;rfl
    | some o=>rw [hy] at hx;cases hx
   subst hb;refine eY (aE rfl (aE z1 (fU (Bn zl) (aE rfl (iO (v:=(.sl (gD l[0]) 1 ((vD l[0]).map aL),())) rfl ?_)))));have:=nx [p.pm[i].1] (by simp);rw [←Ti zl] at this;exact this
  | own=>
   refine je (Bo zl hx (aE (hC (by simp;omega) (by omega)) (aE z1 (Bo zl hx (fU (WT zl) (aE rfl (iO (v:=(.dead,())) rfl ?_)))))));have:=nx (vD l[0]++[p.pm[i].1]) (by simp;omega);rw [←acP zl,eg] at this;rw [dr];exact this
end
section
variable {m:Nat} {Q:V→List (List C)→Prop}
theorem aqL (hm:30040≤m) {b1 b2 b3:Bool} {ps:List PR} {r2:RR} {ay:List PC} {K:dv.T→OR} (e8:ps.length≤100) (fF:∀p∈ps,p.rs.length≤100) (gI:ay.length≤100) {p:PC} {i:Nat} (hi:ay[i]? = some p) (hp:gx p) (kr:p.ss.length≤80) (xe:SF p.ss) (hF:og K Q) (h:Wp (K ((0,0,0,()),())) Q) :
  Wp (Ww (T m) b1 (ps.map cZ) b2 r2 b3 (ay.map dK) (i:Int) K) Q:=by
 obtain ⟨m,rfl⟩:=cG hm;have h2:=hp.p1;refine bH ahn (aM (enc:=dK) (f:=tP) (fun a=>⟨by simp [dK],rfl⟩) rfl hi (aE ?_ ?_))
 ·have:(p.ss.map cq).length=p.ss.length:=by simp
  show (decide ((p.ss.map cq).length≤(p.ss.map cq).length)&&decide ((p.ss.map cq).length * 24≤_)&&decide ((p.ss.map cq).length≤_)&&true&&(!(p.ss.map cq).length==0||(p.ss.map cq).length==0))=true;rw [this];simp;omega
 ·show Wp (Ab (T m) m m (i:Int) (GR b1 b2 b3 ps r2 ay) (0,0,0,()) (tP p) (List.replicate (p.ss.map cq).length [D.sl (.im true) 1 []]) p.pb (p.pm.map eJ) (ae (p.pm.map eJ).length) 0) _;have e:List.replicate (p.ss.map cq).length [D.sl (.im true) 1 []]=(List.replicate p.ss.length none).map cD:=by simp [cD,gD,vD]
  rw [e];have hv:∀(k:Nat) o,(List.replicate p.ss.length (none:Option (List BB)))[k]? = some o→(vD o).length=0:=by
   intro k o ho;rw [UO] at ho;split at ho
   ·cases ho;rfl
   ·cases ho
  exact ac2 e8 fF gI hp kr xe hF h m (by omega) m 0 _ (by omega) (by omega) ⟨by simp,fun k o ho=>by rw [hv k o ho];omega⟩ (fun o ho=>by rw [hv 0 o ho];omega)
end
end
section
open Go Go.ax QQ
abbrev GT (b1 b2 b3:Bool) (ps:List PR) (r2:RR) (ay:List PC):au ka:=((.im b1,ps.map cZ),(.im b2,r2),(.im b3,ay.map dK),())
structure LK where
 b:Bool
 nm:BB
 ts:List TN
def kJ (l:LK):List D:=[.str l.nm,.sl (.im l.b) 3 (l.ts.map cN)]
def xV (l:LK):Prop:=l.nm=[122,122]∧Dc l.ts
section
variable {m:Nat} {Q:V→List (List C)→Prop} {b1 b2 b3:Bool} {ps:List PR} {r2:RR} {ay:List PC}
theorem acU (q:Nat) (hq:150≤q) {ls:List LK} (gi:ls.length≤100) (hg:∀l∈ls,xV l) {K:dv.T→OR} (hF:og K Q) (h:Wp (K ((0,0,0,()),())) Q) {a1:au eN}:∀(c i:Nat),ls.length - i < c→i≤ls.length→
  Wp (KW (T q) q c a1 b2 (ls.map kJ) (ae (ls.map kJ).length) (i:Int)) (J dv K Q)
 | 0,i,hc,_=>by omega
 | c+1,i,hc,hi=>by
  refine aD amk (ai (fun g1=>?_) (fun _=>aA (aC rfl h)));have af:=bM g1;obtain ⟨hn,h1,h6,ho⟩:=hg _ (bL af);refine aM (enc:=kJ) (f:=fun l=>(l.nm,(l.b,l.ts.map cN),())) (fun a=>⟨by simp [kJ],rfl⟩) rfl (gE af) ?_;have t:=ML q (by omega) ls[i].b ls[i].nm h1 (by omega) fun p hp=>abl (ho p hp)
  refine kB (x:=(true,())) t rfl (eH rfl (ie (m:=q) (by omega) ?_));dsimp only;rw [hn,w1 (by omega)];exact eH rfl (acU q hq gi hg hF h c (i+1) (by omega) (by omega))
theorem acV (q:Nat) (hq:150≤q) {gs:List GP} {ls:List LK} (gi:ls.length≤100) (nK:∀l∈ls,xV l) (gg:gs.length≤100) (hg:∀g∈gs,jM g) {K:dv.T→OR} (hF:og K Q) (h:Wp (K ((0,0,0,()),())) Q) {bb:Bool} {a1:au eN}:∀(c i:Nat),gs.length - i < c→i≤gs.length→
  Wp (KX (T q) q c (GR b1 b2 b3 (gs.map dN) (ls.map kJ) ay) a1 bb ((gs.map dN).map cZ) (ae ((gs.map dN).map cZ).length) (i:Int)) (J dv K Q)
 | 0,i,hc,_=>by omega
 | c+1,i,hc,hi=>by
  refine aD aml (ai (fun g1=>?_) (fun _=>?_))
  ·have vy:=bM g1;have af:i < gs.length:=by simpa using vy
   have ok:=hg _ (bL af);refine aM SV rfl (a:=dN gs[i]) (by rw [bO,gE af];rfl) ?_;have hn:(gs[i]).nm∈lR:=by rcases ok.1 with e | e<;>rw [e]<;>decide
   have t:=Yp hn q (by omega) false false ok.2;rw [G9] at t;refine kB (x:=(true,())) t rfl (eH rfl ?_);rw [w1 (by omega)];exact acV q hq gi nK gg hg hF h c (i+1) (by omega) (by omega)
  ·exact acU q hq gi nK hF h q 0 (by omega) (by omega)
theorem aqI (hm:160≤m) {gs:List GP} {ls:List LK} (gi:ls.length≤100) (nK:∀l∈ls,xV l) (gg:gs.length≤100) (hg:∀g∈gs,jM g) {K:dv.T→OR} (hF:og K Q) (h:Wp (K ((0,0,0,()),())) Q):Wp (Wq (T m) b1 ((gs.map dN).map cZ) b2 (ls.map kJ) b3 (ay.map dK) K) Q:=by
 obtain ⟨m,rfl⟩:=cG hm;obtain ⟨r,hr⟩:=bm 1 m;have e0:KY (T m) m m=KY (T m) m (r+1):=by rw [←hr]
 have fl:=mS hF (m:=m) (by omega) (e:=1500) (a:=-1) (b:=-1) (by decide);refine bH ahc (ai (fun _=>fl) (fun _=>ai (fun _=>fl) (fun _=>ai (fun _=>fl) (fun _=>?_))));rw [e0];exact aD amm (acV m (by omega) gi nK gg hg hF h m 0 (by omega) (by omega))
theorem Xr (q:Nat) (hq:30050≤q) {r1:RR} (jZ:r1=ps.map cZ) (cr:ay.length≤20) (hp:∀p∈ay,gx p) {K:Mx.T→OR} (hf:∀e a b,e≠0→Wp (K ((e,a,b,()),GR b1 b2 b3 ps r2 ay,((),()),())) Q)
  (h:(∀p∈ay,HD p∧SF p.ss)→Wp (K ((0,0,0,()),GR b1 b2 b3 ps r2 ay,((),()),())) Q) {x0:au cU} {x1 a1:au jP} {a2:au eN}:∀(c i:Nat) (a1:au jP),ay.length - i < c→i≤ay.length→(∀(j:Nat) p,j < i→ay[j]? = some p→HD p∧SF p.ss)→
  Wp (KR (T q) q x0 x1 c (GT b1 b2 b3 ps r2 ay) a1 a2 (ae (ay.map dK).length) (i:Int)) (J Mx K Q)
 | 0,i,a1,hc,_,_=>by omega
 | c+1,i,a1,hc,hi,aS=>by
  refine aD amc (ai (fun g1=>?_) (fun g1=>aA (aC rfl (h fun p hp=>?_))))
  ·have af:=bM g1;have hg:ay[i]? = some ay[i]:=gE af;have ok:=hp _ (bL af);obtain ⟨r,hr⟩:=bm 3 q;have e0:KS (T q) q x0 x1 c q=KS (T q) q x0 x1 c (r+2+1):=by rw [show r+2+1=q by omega]
   rw [e0];have fail:∀{X:OR},∀e a b,e≠0→Wp (bif (e != 0) then (some ((.agg [(iC e),(iC a),(iC b)]),[(bx ka (GT b1 b2 b3 ps r2 ay)),(bx jP ((),()))])) else X) (J Mx K Q):=fun e a b he=>gM (D2.2 he) (aA (aC rfl (hf e a b he)))
   refine aD amd (eY (eY (eY ?_)));refine aqN (m:=q) (by omega) (by omega) hg ok fail fun hd=>eH rfl ?_
   refine aD ame (eY (eY (eY ?_)));refine aqM (m:=q) (by omega) (by exact fail) hg ok hd.hs hd.ht fun hsf=>eH rfl ?_
   refine aD amf ?_;rw [w1 (by omega)];refine Xr q hq jZ cr hp hf h (a1:=a1) c (i+1) _ (by omega) (by omega) fun j p hj QA=>?_
   by_cases Fi:j < i
   ·exact aS j p Fi QA
   ·rw [show j=i by omega,hg] at QA;cases QA;exact ⟨hd,hsf⟩
  ·have:=tU g1;obtain ⟨j,hj,rfl⟩:=DX hp;exact aS j _ (by omega) (gE hj)
theorem Xs (q:Nat) (hq:30050≤q) (e8:ps.length≤100) (fF:∀p∈ps,p.rs.length≤100) (cr:ay.length≤20) (hp:∀p∈ay,gx p) (hh:∀p∈ay,HD p∧SF p.ss) {K:My.T→OR} (hf:∀e a b,e≠0→Wp (K ((e,a,b,()),GR b1 b2 b3 ps r2 ay,((),()),())) Q)
  (h:Wp (K ((0,0,0,()),GR b1 b2 b3 ps r2 ay,((),()),())) Q) {x0:au cU} {x1:au lg} {a2:au eN}:∀(c i:Nat) (a1:au lg),ay.length - i < c→i≤ay.length→
  Wp (KT (T q) q x0 x1 c (GT b1 b2 b3 ps r2 ay) a1 a2 (ae (ay.map dK).length) (i:Int)) (J My K Q)
 | 0,i,a1,hc,_=>by omega
 | c+1,i,a1,hc,hi=>by
  refine aD amg (ai (fun g1=>?_) (fun g1=>aA (aC rfl h)));have af:=bM g1;have hg:ay[i]? = some ay[i]:=gE af;have hm:=bL af;obtain ⟨r,hr⟩:=bm 3 q;have e0:KU (T q) q x0 x1 c q=KU (T q) q x0 x1 c (r+2+1):=by rw [show r+2+1=q by omega]
  rw [e0];have fail:∀{X:OR},∀e a b,e≠0→Wp (bif (e != 0) then (some ((.agg [(iC e),(iC a),(iC b)]),[(bx ka (GT b1 b2 b3 ps r2 ay)),(bx lg ((),()))])) else X) (J My K Q):=fun e a b he=>gM (D2.2 he) (aA (aC rfl (hf e a b he)))
  refine aD amh (eY (eY (eY ?_)));refine aqL (m:=q) (by omega) e8 fF (by omega) hg (hp _ hm) (hh _ hm).1.hs (hh _ hm).2 fail (eH rfl ?_);refine aD ami ?_;rw [w1 (by omega)];exact Xs q hq e8 fF cr hp hh hf h c (i+1) _ (by omega) (by omega)
def CkK (ay:List PC) (K:dv.T→OR) (Q:V→List (List C)→Prop):Prop:=og K Q∧((∀p∈ay,HD p∧SF p.ss)→Wp (K ((0,0,0,()),())) Q)
theorem aqv (hm:30060≤m) {gs:List GP} {ls:List LK} (gi:ls.length≤100) (nK:∀l∈ls,xV l) (gg:gs.length≤100) (hg:∀g∈gs,jM g) (cr:ay.length≤20) (hp:∀p∈ay,gx p) {K:dv.T→OR} (hK:CkK ay K Q):Wp (c12 (T m) b1 ((gs.map dN).map cZ) b2 (ls.map kJ) b3 (ay.map dK) K) Q:=by
 obtain ⟨m,rfl⟩:=bm 2 m;obtain ⟨r,hr⟩:∃r,m+1=r+5:=⟨m - 4,by omega⟩
 have e0:KQ (T (m+1)) (m+1) (m+1)=KQ (T (m+1)) (m+1) (r+4+1):=by rw [show r+4+1=m+1 by omega]
 have ajr:(gs.map dN).length≤100:=by simpa using gg
 have Qe:∀p∈gs.map dN,p.rs.length≤100:=by
  intro p hp;obtain ⟨g,qb,rfl⟩:=iz.1 hp;have:=(hg g qb).2.2.1;simp [dN];omega
 obtain ⟨hF,h⟩:=hK;refine bH ag5 ?_;refine bH ag6 (aA (aC rfl ?_));refine bH ag9 (aA (aC rfl ?_));rw [e0];have fail:∀{X:OR} (e a b:Int),e≠0→Wp (bif (e != 0) then (some ((.agg [(iC e),(iC a),(iC b)]),[])) else X) (J dv K Q):=fun e a b he=>gM (D2.2 he) (aA (aC rfl (hF e a b he)))
 refine aD al8 ?_;have Hg:Wp (Ru (T (m+1)) (m+1) (r+4) (GR b1 b2 b3 (gs.map dN) (ls.map kJ) ay) (0,0,0,()) ((),()) ((),())) (J dv K Q):=by
  refine aD al9 (bH ag7 (Xr (b1:=b1) (b2:=b2) (b3:=b3) (ps:=gs.map dN) (r2:=ls.map kJ) m (by omega) rfl cr hp (fun e a b he=>fail e a b he) (fun hh=>eH rfl ?_) (a1:=((),())) m 0 _ (by omega) (by omega) (fun j p hj=>by omega)));have st4:∀x:au eN,Wp (Rw (T (m+1)) (m+1) (r+2) (GR b1 b2 b3 (gs.map dN) (ls.map kJ) ay) x ((),()) ((),())) (J dv K Q):=by
   intro x;refine aD ama (bH ag8 (Xs (b1:=b1) (b2:=b2) (b3:=b3) (ps:=gs.map dN) (r2:=ls.map kJ) m (by omega) ajr Qe cr hp hh (fun e a b he=>fail e a b he) (eH rfl ?_) m 0 _ (by omega) (by omega)));exact aD amb (aA (aC rfl (h hh)))
  refine aD al' (bH aha ?_);have no:∀{F:Mw.T→OR} {Q':V→List (List C)→Prop},(∀e a b,e≠0→Wp (F ((e,a,b,()),GR b1 b2 b3 (gs.map dN) (ls.map kJ) ay,())) Q')→Wp (c46 (T m) 1504 (-1) (-1) fun v1=>(some ((.agg [(iC v1.1.1),(iC v1.1.2.1),(iC v1.1.2.2.1)]),[(bx ka (GT b1 b2 b3 (gs.map dN) (ls.map kJ) ay))]))) (J Mw F Q'):=fun hk=>aeb (by omega) (aA (aC rfl (hk _ _ _ (by decide))))
  refine M5 (m:=m) (by omega) (by omega) (gM rfl (no fun e a b he=>fail e a b he)) (fun i hi=>eH (show decide ((i:Int) < 0)=false from cg (by omega)) ?_);refine aM acn rfl (gE hi) (ai (fun _=>no fun e a b he=>fail e a b he) (fun _=>aA (aC rfl (eH rfl (st4 _)))))
 refine bH ag' (aqI (m:=m) (by omega) gi nK gg hg (fun e a b he=>aA (aC rfl (fail e a b he))) (aA (aC rfl (eH rfl Hg))))
end
end
section
open Go Go.ax PT
theorem ao9 (m:Nat):((List.range 52).map fun d:Nat=>T (m+60) 149 [.one (sC [32,32]),.one (iC (d:Int))] [])=(List.range 52).map fun d=>some (.one (sC (List.replicate (2 * d) 32)),[]):=by kernel_rfl
end
section
open Go Go.ax PT
open QQ (iJ strs mO Ov bF oQ)
structure LN where
 d:Nat
 s:List UInt8
def rf (l:LN):List UInt8:=List.replicate (2 * l.d) 32++l.s++[10]
def fH (l:List LN):List UInt8:=l.flatMap rf
theorem sT (a b:List LN):fH (a++b)=fH a++fH b:=List.flatMap_append
theorem vO (a:LN) (b:List LN):fH (a::b)=rf a++fH b:=rfl
theorem uq (l:LN):(rf l).length=2 * l.d+l.s.length+1:=by simp [rf];omega
theorem rp {m d:Nat} (hm:60≤m) (hd:d < 52):T m 149 [.one (sC [32,32]),.one (iC (d:Int))] []=some (.one (sC (List.replicate (2 * d) 32)),[]):=by
 obtain ⟨m,rfl⟩:=bm 60 m;have:=fW (fun l=>l[d]?) (ao9 m);simp only [bO,HF hd,fe] at this;exact uS this
section
variable {m:Nat} {Q:V→List (List C)→Prop} {s t:List UInt8}
theorem Uk (hm:2≤m) (hl:t.length+s.length≤100000000000000) {K:Tg.T→OR} (h:∀n,Wp (K ((n,true,()),bB (t++s),())) Q):Wp (du (T m) s (bB t) K) Q:=by
 rw [du,rN m hm s t hl,ry];exact h _
theorem g9 {n:Nat} (h:n≤100000000000000):n≤9223372036854775807:=by omega
theorem uJ (hm:70≤m) {d:Nat} (hd:d < 52) (hl:t.length+s.length+2 * d+1≤100000000000000) {K:j8.T→OR} (h:Wp (K ((),bB (t++rf ⟨d,s⟩),())) Q):Wp (ij (T m) (d:Int) s (bB t) K) Q:=by
 obtain ⟨m,rfl⟩:=cG hm;refine bH aga (kB (x:=(List.replicate (2 * d) 32,())) (rp (by omega) hd) rfl ?_);refine cz (g9 (by simp;omega)) (cz (g9 (by simp;omega)) (Uk (m:=m) (by omega) (by simp;omega) fun n=>gM rfl (aA ?_)));unfold J;rw [rz];exact h
def TxK (K:ft.T→OR) (Q:V→List (List C)→Prop) (N:Nat):Prop:=∀τ:List UInt8,NL τ→τ.length≤N→Wp (K (τ,())) Q
theorem DR (hm:300≤m) {b:Bool} {tm:List TM} (hT:jk tm) {z:Int} {K:ft.T→OR} (h:TxK K Q 330):Wp (wY (T m) b (tm.map bz) z K) Q:=by
 have hr:∀t∈tm.map wD,Cr t:=by
  intro t ht;obtain ⟨u,hu,rfl⟩:=iz.1 ht;obtain ⟨i,hi,rfl⟩:=DX hu;have g:tm[i]? = some tm[i]:=gE hi;generalize tm[i]=u at g;rcases hT i u g with hl | ⟨h0,_⟩
  ·have:=hl.2.2.2;simpa [yj,Cr,wD] using this
  ·show _≤u.n∧u.n≤_;omega
 cases Fv:sU (tm.map wD) z with
 | false=>
  obtain ⟨m,rfl⟩:=cG hm;refine bH Xn (Ui (m:=m) (by omega) ?_);rw [Fv];exact gM rfl (aA (aC rfl (h [] yL (by simp))))
 | true=>
  obtain ⟨t,ok,ha,_,_⟩:=anO hr Fv;rw [←Og] at ha;have h3:=apC hT ha;have tx:=MQ ok
  have := apU b (tm.map bz) ok ha (by omega) (n := m) (by omega) (fun k hk => by
    have := aa3 (x0 := b) (l := tm.map wD) z k (by omega)
    rw [Fv] at this
    rw [Og]; exact this)
  exact kB (x:=(gn t,())) this rfl (h _ tx.1 (by omega))
def Nl (K:ft.T→OR) (Q:V→List (List C)→Prop):Prop:=∀τ:List UInt8,NL τ→τ.length≤34000→τ.getLast? = some 41→Wp (K (τ,())) Q
theorem Ud {l:List (List UInt8)} (hm:l.length+10≤m) {b:Bool} (hl:l.length≤200) (hy:∀y∈l,y.length≤10000000) {K:ft.T→OR} (h:Wp (K (iJ l,())) Q):Wp (oi (T m) b (l.map aL) [44,32] K) Q:=
 aD (Ov hm b hl hy rfl) h
theorem Vx (hm:220≤m) {b:Bool} {o:List (List UInt8)} (hl:o.length≤100) (ho:∀y∈o,NL y∧y.length≤330) {K:ft.T→OR} (h:Nl K Q) :
  Wp (oi (T m) b (o.map aL) [44,32] fun v4=>(aN (1+List.length v4.1) (aN (([40]++v4.1).length+1) (some ((.one (sC ([40]++v4.1++[41]))),[]))))) (J ft K Q):=by
 have hj:=JV (N:=330) fun y hy=>(ho y hy).2
 refine Ud (by omega) (by omega) (fun y hy=>by have:=(ho y hy).2;omega) (cz (by dsimp only;omega) (cz (by simp;omega) (aA (aC rfl (h _ ?_ ?_ ?_)))))
 ·exact eO.2 ⟨eO.2 ⟨cj,FR fun y hy=>(ho y hy).1⟩,cj⟩
 ·simp;omega
 ·rw [HG];rfl
theorem Vw (q:Nat) (hq:300≤q) {p:PC} (hT:jk p.tm) {gb:Bool} {l:List Int} (hl:l.length≤100) {K:ft.T→OR} (h:Nl K Q):∀(c i:Nat) (o:List (List UInt8)),l.length - i < c→i≤l.length→o.length=i→(∀y∈o,NL y∧y.length≤330)→
  Wp (J7 (T q) q c (tP p) (o.map aL) gb (l.map bF) (ae (l.map bF).length) (i:Int)) (J ft K Q)
 | 0,i,o,hc,_,_,_=>by omega
 | c+1,i,o,hc,hi,ho,hy=>by
  refine aD aky (ai (fun g1=>?_) (fun _=>aE (by simp) ?_))
  ·have af:=bM g1;refine aM oQ rfl (gE af) ?_;refine DR (m:=q) (by omega) hT fun τ h1 h2=>aE (hC (by simp;omega) (by omega)) ?_
   rw [w1 (by omega),dr]
   have := Vw q hq hT (gb := gb) hl h c (i + 1) (o ++ [τ]) (by omega) (by omega) (by simp; omega) (fun y fO => by
     rw [dC] at fO
     rcases fO with fO | fO
     · exact hy y fO
     · simp at fO; subst fO; exact ⟨h1, h2⟩)
   rw [eg] at this;exact this
  ·rw [dr,qv];exact Vx (by omega) (by omega) hy h
theorem Ua (hm:310≤m) {p:PC} (hT:jk p.tm) {gb:Bool} {l:List Int} (hl:l.length≤100) {K:ft.T→OR} (h:Nl K Q):Wp (Bg (T m) p.nm p.pb (p.pm.map eJ) p.tb (p.tm.map bz) p.sb (p.ss.map cq) gb (l.map bF) K) Q:=by
 obtain ⟨m,rfl⟩:=cG hm;obtain ⟨r,hr⟩:=bm 1 m;have e0:J6 (T m) m m=J6 (T m) m (r+1):=by rw [←hr]
 refine bH af6 ?_;rw [e0];refine aD akx (ai (fun g1=>?_) (fun _=>?_))
 ·have af:=bM (i:=0) g1;refine aM oQ (i:=0) rfl (gE af) ?_;refine DR (m:=m) (by omega) hT fun τ h1 h2=>aE rfl ?_
  exact Vw m (by omega) hT hl h r 1 [τ] (by omega) (by omega) rfl (fun y hy=>by simp at hy;subst hy;exact ⟨h1,h2⟩)
 ·exact Vx (o:=[]) (by omega) (by simp) (fun y hy=>by cases hy) h
end
end
section
open Go Go.ax PT
open QQ (iJ mO bF oQ)
section
variable {m:Nat} {Q:V→List (List C)→Prop} {K:ft.T→OR}
structure TL (a b:UInt8) (s:List UInt8):Prop where
 nl:NL s
 h:s.head? = some a
 l:s.getLast? = some b
def oM (s:List UInt8):Prop:=NL s∧s.length≤12
theorem mz {s:List UInt8} (h:gK s=true):oM s:=⟨(Lz h).1,(Lz h).2.1⟩
def Sj (cs:List CR):Prop:=cs.length≤100∧∀c∈cs,c.ag.length≤100∧oM c.ro∧oM c.pc
theorem abw (hm:220≤m) {s:PS} (h1:oM s.nm) (h2:oM s.lb) (h3:oM s.pr) {b:Bool} {o:List (List UInt8)} (hl:o.length≤100) (ho:∀y∈o,NL y∧y.length≤34026) (h:∀τ,TL 111 59 τ→τ.length≤3500000→Wp (K (τ,())) Q) :
  Wp (oi (T m) b (o.map aL) [44,32] fun v4=>(aN (([111,112,101,110,32]++s.nm++[32,61,32]++s.lb++[32,97,115,32]++s.pr++[32,119,105,116,104,32]).length+List.length v4.1) (aN (([111,112,101,110,32]++s.nm++[32,61,32]++s.lb++[32,97,115,32]++s.pr++[32,119,105,116,104,32]++v4.1).length+1) (some ((.one (sC ([111,112,101,110,32]++s.nm++[32,61,32]++s.lb++[32,97,115,32]++s.pr++[32,119,105,116,104,32]++v4.1++[59]))),[]))))) (J ft K Q):=by
 have hj:=JV (N:=34026) fun y hy=>(ho y hy).2
 have:=h1.2;have:=h2.2;have:=h3.2;refine Ud (by omega) (by omega) (fun y hy=>by have:=(ho y hy).2;omega) (cz (by simp;omega) (cz (by simp;omega) (aA (aC rfl (h _ ⟨?_,rfl,by rw [HG];rfl⟩ ?_)))))
 ·simp only [eO];exact ⟨⟨⟨⟨⟨⟨⟨⟨cj,h1.1⟩,cj⟩,h2.1⟩,cj⟩,h3.1⟩,cj⟩,FR fun y hy=>(ho y hy).1⟩,cj⟩
 ·simp;omega
theorem abv (q:Nat) (hq:310≤q) {p:PC} (hT:jk p.tm) {c:CR} (hc:c.ag.length≤100∧oM c.ro∧oM c.pc) {F:List UInt8→OR} {Q':V→List (List C)→Prop} (h:∀y,NL y→y.length≤34026→Wp (F y) Q') :
  Wp (aN (List.length c.ro+2) (aN ((c.ro++[58,32]).length+List.length c.pc) (Bg (T q) p.nm p.pb (p.pm.map eJ) p.tb (p.tm.map bz) p.sb (p.ss.map cq) c.gt (c.ag.map bF) fun v3=>(aN ((c.ro++[58,32]++c.pc).length+List.length v3.1) (F (c.ro++[58,32]++c.pc++v3.1)))))) Q':=by
 have:=hc.2.1.2;have:=hc.2.2.2;refine cz (by omega) (cz (by simp;omega) (Ua (by omega) hT hc.1 fun τ h1 h2 _=>cz (by simp;omega) (h _ ?_ (by simp;omega))));simp only [eO];exact ⟨⟨⟨hc.2.1.1,cj⟩,hc.2.2.1⟩,h1⟩
theorem open_1 (q:Nat) (hq:310≤q) {p:PC} (hT:jk p.tm) {s:PS} (h1:oM s.nm) (h2:oM s.lb) (h3:oM s.pr) (hc:Sj s.cs) (h:∀τ,TL 111 59 τ→τ.length≤3500000→Wp (K (τ,())) Q):∀(c i:Nat) (o:List (List UInt8)),s.cs.length - i < c→i≤s.cs.length→o.length=i→(∀y∈o,NL y∧y.length≤34026)→
  Wp (CD (T q) q c (tP p) (tS s) (o.map aL) s.ct (s.cs.map eC) (ae (s.cs.map eC).length) (i:Int)) (J ft K Q)
 | 0,i,o,c8,_,_,_=>by omega
 | c+1,i,o,c8,hi,ho,hy=>by
  have:=h1.2;have:=h2.2;have:=h3.2;have hl:=hc.1;refine aD akF (ai (fun g1=>?_) (fun _=>?_))
  ·have af:=bM g1;refine aM (enc:=eC) (f:=fun c=>(c.ro,c.pc,(c.gt,c.ag.map bF),())) (fun a=>⟨by simp [eC],rfl⟩) rfl (gE af) ?_;refine abv q hq hT (hc.2 _ (bL af)) (F:=fun y=>gd ((o.map aL).length==(o.map aL).length&&true&&decide (((o.map aL).length+1) * 16≤140737488355328)) (CD (T q) q c (tP p) (tS s) (o.map aL++whole ([[D.str []]].set 0 [D.str y])) s.ct (s.cs.map eC) (ae (s.cs.map eC).length) (ak ((i:Int)+1)))) fun y hn QS=>aE (hC (by simp;omega) (by omega)) ?_
   rw [w1 (by omega),dr]
   have := open_1 q hq hT h1 h2 h3 hc h c (i + 1) (o ++ [y]) (by omega) (by omega) (by simp; omega) (fun y' fO => by
     rw [dC] at fO
     rcases fO with fO | fO
     · exact hy y' fO
     · simp at fO; subst fO; exact ⟨hn, QS⟩)
   rw [eg] at this;exact this
  ·have e:aW (whole (o.map aL))=o.map aL:=by rw [dr,qv]
   refine cz (by dsimp only [tS];omega) (cz (by simp [tS];omega) (cz (by simp [tS];omega) (cz (by simp [tS];omega) (cz (by simp [tS];omega) (cz (by simp [tS];omega) (aE (by simp) ?_))))));rw [e];exact abw (by omega) h1 h2 h3 (by omega) hy h
theorem aqD (hm:320≤m) {p:PC} (hT:jk p.tm) {s:PS} (h1:oM s.nm) (h2:oM s.lb) (h3:oM s.pr) (hc:Sj s.cs) (h:∀τ,TL 111 59 τ→τ.length≤3500000→Wp (K (τ,())) Q) :
  Wp (V8 (T m) p.nm p.pb (p.pm.map eJ) p.tb (p.tm.map bz) p.sb (p.ss.map cq) s.kd s.nm s.pr s.lb s.pc s.tm s.gt (s.ag.map bF) s.ct (s.cs.map eC) s.wb (s.ws.map cW) s.nx K) Q:=by
 obtain ⟨m,rfl⟩:=cG hm;obtain ⟨r,hr⟩:=bm 1 m;have e0:J' (T m) m m=J' (T m) m (r+1):=by rw [←hr]
 have:=h1.2;have:=h2.2;have:=h3.2;have hl:=hc.1;refine bH agb ?_;rw [e0];refine aD akE (ai (fun g1=>?_) (fun _=>?_))
 ·have af:=bM (i:=0) g1;refine aM (enc:=eC) (f:=fun c=>(c.ro,c.pc,(c.gt,c.ag.map bF),())) (fun a=>⟨by simp [eC],rfl⟩) (i:=0) rfl (gE af) ?_;refine abv m (by omega) hT (hc.2 _ (bL af)) (F:=fun y=>gd (true&&true&&true) (CD (T m) m r (tP p) (tS s) [[.str y]] s.ct (s.cs.map eC) (ae (s.cs.map eC).length) (ak (0+1)))) fun y hn QS=>aE rfl ?_
  exact open_1 m (by omega) hT h1 h2 h3 hc h r 1 [y] (by omega) (by omega) rfl (fun y' fO=>by simp at fO;subst fO;exact ⟨hn,QS⟩)
 ·refine cz (by dsimp only [tS];omega) (cz (by simp [tS];omega) (cz (by simp [tS];omega) (cz (by simp [tS];omega) (cz (by simp [tS];omega) (cz (by simp [tS];omega) ?_)))));exact abw (o:=[]) (by omega) h1 h2 h3 (by simp) (fun y hy=>by cases hy) h
end
end
section
open Go Go.ax PT
open QQ (iJ mO bF oQ)
def step1 (o:Int) (l:LN):Option Int:=
 let o1:=if l.s.head? = some 125 then o - 1 else o
 if (l.d:Int)=o1 then some (if l.s.getLast? = some 123 then o1+1 else o1) else none
def run:Int→List LN→Option Int
 | o,[]=>some o
 | o,l::t=>(step1 o l).bind fun o'=>run o' t
theorem acQ:∀{o:Int} (a b:List LN),run o (a++b)=(run o a).bind fun o'=>run o' b
 | o,[],b=>rfl
 | o,l::t,b=>by
  show (step1 o l).bind _=((step1 o l).bind _).bind _;cases step1 o l with
  | none=>rfl
  | some o'=>exact acQ t b
def okL (l:LN):Prop:=NL l.s∧∃a,l.s.head? = some a∧a≠32
structure ey (e:Nat) (o o':Int) (n:Nat) (ls:List LN):Prop where
 ok:∀l∈ls,okL l∧e≤l.d
 run:run o ls=some o'
 len:ls.length=n
 sz:(fH ls).length≤4000000 * n
theorem ey.app {e:Nat} {o o' eX:Int} {n n':Nat} {a b:List LN} (h:ey e o o' n a) (h':ey e o' eX n' b):ey e o eX (n+n') (a++b):=by
 refine ⟨fun l hl=>(dC.1 hl).elim (h.ok l) (h'.ok l),by rw [acQ,h.run];exact h'.run,by rw [ew,h.len,h'.len],?_⟩;have:=h.sz;have:=h'.sz;rw [sT,ew];omega
theorem ey.deep {e e':Nat} {o o':Int} {n:Nat} {a:List LN} (h:ey e o o' n a) (he:e'≤e):ey e' o o' n a:=⟨fun l hl=>⟨(h.ok l hl).1,iQ he (h.ok l hl).2⟩,h.run,h.len,h.sz⟩
theorem ey.nil {e:Nat} {o:Int}:ey e o o 0 []:=⟨(fun l hl=>by cases hl),rfl,rfl,yH _⟩
theorem ey.one {e d:Nat} {o o':Int} {a b:UInt8} {s:List UInt8} (h:TL a b s) (ha:a≠32) (hd:e≤d) (h6:d≤60) (hl:s.length≤3600000) (hr:step1 o ⟨d,s⟩=some o'):ey e o o' 1 [⟨d,s⟩]:=by
 refine ⟨fun l hl=>?_,by show (step1 o ⟨d,s⟩).bind _=_;rw [hr];rfl,rfl,?_⟩
 ·rw [uO.1 hl];exact ⟨⟨h.nl,a,h.h,ha⟩,hd⟩
 ·rw [vO,ew,uq];simp only [fH,List.flatMap_nil,jD];omega
theorem TJ {d:Nat} {a b:UInt8} {s:List UInt8} (h:TL a b s) (ha:a≠125) (hb:b≠123):step1 d ⟨d,s⟩=some d:=by simp [step1,h.h,h.l,ha,hb]
theorem Hj {d:Nat} {a:UInt8} {s:List UInt8} (h:TL a 123 s) (ha:a≠125):step1 d ⟨d,s⟩=some (d+1:Nat):=by simp [step1,h.h,h.l,ha]
theorem apK {d:Nat}:step1 (d+1:Nat) ⟨d,[125,32,101,108,115,101,32,123]⟩=some (d+1:Nat):=by simp [step1]
theorem Hi {d:Nat}:step1 (d+1:Nat) ⟨d,[125]⟩=some d:=by simp [step1]
theorem tl {x y:List UInt8} {a b:UInt8} (hn:NL (x++y)) (hh:(x++y).head? = some a) (hl:y.getLast? = some b):TL a b (x++y):=⟨hn,hh,by rw [HG,hl];rfl⟩
theorem Hm:TL 125 125 [125]:=⟨cj,rfl,rfl⟩
theorem apW:TL 125 123 [125,32,101,108,115,101,32,123]:=⟨cj,rfl,rfl⟩
def gl (s:PS):Nat:=if s.kd=3 then 3 else if s.kd=5 then 2+2 * s.ws.length else 1
section
variable {m:Nat} {Q:V→List (List C)→Prop} {p:PC} {W D:Nat→Nat}
def Nn (m:Nat) (p:PC) (W D:Nat→Nat) (k:Nat) (s:PS):Prop:=∀(d:Nat) (t:List UInt8) (K:j8.T→OR) (Q:V→List (List C)→Prop),d+2 * inc s≤3+2 * D k→t.length+4000000 * W k≤100000000000000→(∀ls,ey d d d (W k) ls→Wp (K ((),bB (t++fH ls),())) Q)→
 Wp (c93 (T m) p.nm p.pb (p.pm.map eJ) p.tb (p.tm.map bz) p.sb (p.ss.map cq) (k:Int) (d:Int) (bB t) K) Q
structure BG (m:Nat) (p:PC) (W D:Nat→Nat) (n:Nat) (s:PS):Prop where
 hm:1000≤m
 ok:gx p
 hs:p.ss[n]? = some s
 f:uV s
 e:∀t∈bq s,∃(k:Nat) (s':PS),t=(k:Int)∧p.ss[k]? = some s'∧Nn m p W D k s'∧D k=D n+inc s'
 w:W n=gl s+((bq s).map fun z=>W z.toNat).sum
 d:D n≤24
theorem NT {n:Nat} {s:PS} (g:BG m p W D n s) {d:Nat} (hd:d+2 * inc s≤3+2 * D n) {t:List UInt8} (ht:t.length+4000000 * W n≤100000000000000) {K:j8.T→OR} {x9:au bl} (h:∀ls,ey d d d (W n) ls→Wp (K ((),bB (t++fH ls),())) Q)
  {Gv:List LN} {n0:Nat} (h0:ey d d d n0 Gv) (hn:if kO s.kd then n0=gl s else n0=W n):Wp (lP (T m) m x9 m (d:Int) (bB (t++fH Gv)) (tP p) (tS s)) (J j8 K Q):=by
 have hm:=g.hm;obtain ⟨r,hr⟩:=bm 1 m;have e0:lP (T m) m x9 m=lP (T m) m x9 (r+1):=by rw [←hr]
 rw [e0];refine aD akD ?_;cases hg:kO s.kd with
 | false=>
  rw [hg] at hn;have hx:=g.f.ng hg;rw [show W n=n0 by simpa using hn.symm] at h;refine eH (cg (show ¬ s.nx≥0 by omega)) (aA ?_);unfold J;rw [rz];exact h Gv h0
 | true=>
  rw [hg] at hn;have sG:n0=gl s:=by simpa using hn
  have q6:bq s=[s.nx]:=by unfold bq;rw [aJ hg]
  obtain ⟨k,s',hk,lN,bk,hD⟩:=g.e s.nx (by rw [q6];simp);have hw:=g.w;rw [q6,hk] at hw;simp only [fS,uN,tF,DY,gW,UG] at hw;have h3:=h0.sz;refine gM (bf (show s.nx≥0 by omega)) ?_;show Wp (c93 (T m) p.nm p.pb (p.pm.map eJ) p.tb (p.tm.map bz) p.sb (p.ss.map cq) s.nx (d:Int) (bB (t++fH Gv)) _) _;rw [hk];refine bk d _ _ _ (by omega) (by rw [ew];omega) fun ls lM=>aA ?_
  unfold J;rw [rz];have:=h (Gv++ls) (by rw [hw,←sG];exact h0.app lM);rw [sT,←eo] at this;exact this
theorem ae9 {n:Nat} {s:PS} (g:BG m p W D n s) {d:Nat} (hd:d+2 * inc s≤3+2 * D n) {t:List UInt8} (ht:t.length+4000000 * W n≤100000000000000) {K:j8.T→OR} {x9:au bl} (h:∀ls,ey d d d (W n) ls→Wp (K ((),bB (t++fH ls),())) Q)
  (hk:s.kd≠3∧s.kd≠5) {τ:List UInt8} {a b:UInt8} (hτ:TL a b τ) (ha:a≠32∧a≠125) (hb:b≠123) (hl:τ.length≤3600000):Wp (ij (T m) (d:Int) τ (bB t) fun v=>lP (T m) m x9 m (d:Int) v.2.1 (tP p) (tS s)) (J j8 K Q):=by
 have hD:=g.d;have hm:=g.hm;have hw:=g.w;have ho:gl s=1:=by unfold gl;rw [az hk.1,az hk.2]
 refine uJ (m:=m) (by omega) (by omega) (by omega) ?_
 have := NT g hd ht (x9 := x9) h (ey.one hτ ha.1 (bT d) (by omega) hl (TJ hτ ha.2 hb)) (by
   cases hg : kO s.kd with
   | true => rw [aJ rfl, ho]
   | false =>
     have : bq s = [] := by unfold bq; rw [az (by rw [hg]; simp), g.f.go hk.1 hk.2]; rfl
     rw [this] at hw
     simp at hw
     rw [az (by simp), hw, ho])
 rw [vO,show fH []=[] from rfl,mH] at this;exact this
theorem VP {n:Nat} {s:PS} (g:BG m p W D n s) (hk:s.kd=5) {d:Nat} (hd:d+2 * inc s≤3+2 * D n) {K:j8.T→OR} {x9:au bl}:∀(c i:Nat) (t:List UInt8),s.ws.length - i < c→i≤s.ws.length→
  t.length+4000000 * (1+2 * (s.ws.length - i)+(((bq s).drop i).map fun z=>W z.toNat).sum)≤100000000000000→
  (∀ls,ey d (d+1:Nat) d (1+2 * (s.ws.length - i)+(((bq s).drop i).map fun z=>W z.toNat).sum) ls→Wp (lP (T m) m x9 m (d:Int) (bB (t++fH ls)) (tP p) (tS s)) (J j8 K Q))→
  Wp (J9 (T m) m x9 c (d:Int) (bB t) (tP p) (tS s) s.wb (s.ws.map cW) (ae (s.ws.map cW).length) (i:Int)) (J j8 K Q)
 | 0,i,t,hc,_,_,_=>by omega
 | c+1,i,t,hc,hi,hl,h=>by
  have hD:=g.d;have hm:=g.hm;have YX:inc s=1:=by unfold inc;rw [aJ (.inr hk)]
  have q6:bq s=s.ws.map WR.nx:=by unfold bq;rw [az (by rw [hk];decide)]
  have ZC:=(g.ok.s2 s (fm g.hs)).2.2.2;refine aD akB (ai (fun g1=>?_) (fun g1=>?_))
  ·have af:=bM g1;have hg:s.ws[i]? = some s.ws[i]:=gE af;have Za:=(g.f.h1 hk).2 _ (bL af);have E9:(bq s).drop i=s.ws[i].nx::(bq s).drop (i+1):=by
    rw [q6,tA (by simpa using af)];simp
   obtain ⟨k,s',iG,lN,bk,hDk⟩:=g.e s.ws[i].nx (by rw [q6];exact List.mem_map_of_mem (bL af));rw [E9] at hl h;simp only [fS,tF] at hl h;rw [iG,UG] at hl h;obtain ⟨r,hr⟩:=bm 1 m;have e0:CB (T m) m x9 c m=CB (T m) m x9 c (r+1):=by rw [←hr]
   have wd:∀j:Nat,j≤10→ak ((d:Int)+(j:Nat))=((d+j:Nat):Int):=fun j hj=>fY
   have rest:∀τ a,TL a 123 τ→a≠32→a≠125→τ.length≤100→Wp (ij (T m) (ak ((d:Int)+1)) τ (bB t) fun e9=>CB (T m) m x9 c m (d:Int) e9.2.1 (tP p) (tS s) s.wb (s.ws.map cW) (ae (s.ws.map cW).length) (i:Int) (s.ws[i].lb,s.ws[i].nm,s.ws[i].nx,())) (J j8 K Q):=by
    intro τ a hτ h32 ai0 hτl;rw [show ak ((d:Int)+1)=((d+1:Nat):Int) from wd 1 (by omega)];refine uJ (m:=m) (by omega) (by omega) (by omega) ?_;rw [e0];refine aD akC ?_;show Wp (c93 (T m) p.nm p.pb (p.pm.map eJ) p.tb (p.tm.map bz) p.sb (p.ss.map cq) s.ws[i].nx (ak ((d:Int)+2)) (bB (t++rf ⟨d+1,τ⟩)) _) _;rw [iG,show ak ((d:Int)+2)=((d+2:Nat):Int) from wd 2 (by omega)];refine bk (d+2) _ _ _ (by omega) (by rw [ew,uq];dsimp only;omega) fun ls lM=>?_
    dsimp only;rw [show ak ((d:Int)+1)=((d+1:Nat):Int) from wd 1 (by omega)];have hz:=lM.sz;refine uJ (m:=m) (by omega) (by omega) (by simp only [ew,uq,gp,jD];omega) ?_;dsimp only;rw [w1 (by omega)];have sg:ey d (d+1:Nat) (d+1:Nat) (1+W k+1) ([⟨d+1,τ⟩]++ls++[⟨d+1,[125]⟩]):=
     ((ey.one hτ h32 (by omega) (by omega) (by omega) (Hj hτ ai0)).app (lM.deep (by omega))).app (ey.one Hm (by decide) (by omega) (by omega) (by simp) Hi)
    have aZ:=sg.sz;have et:t++rf ⟨d+1,τ⟩++fH ls++rf ⟨d+1,[125]⟩=t++fH ([⟨d+1,τ⟩]++ls++[⟨d+1,[125]⟩]):=by simp [sT,fH,eo]
    rw [et];refine VP g hk hd c (i+1) _ (by omega) (by omega) (by rw [ew];omega) fun RE ajz=>?_
    have := h (([⟨d + 1, τ⟩] ++ ls ++ [⟨d + 1, [125]⟩]) ++ RE) (by
      have := sg.app ajz
      rw [show 1 + W k + 1 + (1 + 2 * (s.ws.length - (i + 1)) + (((bq s).drop (i + 1)).map fun z => W z.toNat).sum) = 1 + 2 * (s.ws.length - i) + (W k + (((bq s).drop (i + 1)).map fun z => W z.toNat).sum) by omega] at this
      exact this)
    rw [sT,←eo] at this;exact this
   refine aM Au rfl hg (ai (fun _=>?_) (fun g2=>?_))
   ·exact rest [108,111,115,116,32,123] 108 ⟨cj,rfl,rfl⟩ (by decide) (by decide) (by decide)
   have Qo:gK s.ws[i].lb=true:=by
    rcases Za.1 with e | e
    ·have:(s.ws[i].lb==[])=false:=g2;rw [e] at this;cases this
    ·exact e
   have Fo:=Lz Qo;obtain ⟨a,r',eU,ha⟩:=Fo.2.2;have ju:oM s.ws[i].nm:=by
    rcases Za.2 with e | e
    ·rw [e];exact ⟨yL,by simp⟩
    ·exact mz e
   have:=ju.2;have:=JU ha;refine cz (by dsimp only;omega) (cz (by simp;omega) (cz (by simp;omega) ?_));refine rest (s.ws[i].lb++[40]++s.ws[i].nm++[41,32,123]) a (tl ?_ ?_ rfl) this.2.1 this.2.2.1 (by simp;omega)
   ·simp only [eO];exact ⟨⟨⟨Fo.1,cj⟩,ju.1⟩,cj⟩
   ·rw [eU];rfl
  ·have eP:=tU g1;have e:(bq s).drop i=[]:=DW (by rw [q6];simp;omega);rw [e] at hl h;obtain ⟨r,hr⟩:=bm 1 m;refine uJ (m:=m) (by omega) (by omega) (by simp at hl ⊢;omega) ?_
   have := h [⟨d, [125]⟩] (by
     rw [show 1 + 2 * (s.ws.length - i) + ((([] : List Int)).map fun z => W z.toNat).sum = 1 by simp; omega]
     exact ey.one Hm (by decide) (bT d) (by omega) (by simp) Hi)
   rw [vO,show fH []=[] from rfl,mH] at this;exact this
end
end
end Go.Proofs.YtfmpdgeiodnnfaaGreatDoor
